/- Texts U5, U4, U7, D9, U8, U10, U11, U12, U13, M9, U14, U16, joined. -/
import Derived.Test.YtemmlldpmgfblaaGreatDoorM8

/- Discharges of the reference: messages, Restrict, Bind. -/
namespace Go.Proofs.YtemmlldpmgfblaaGreatDoor
open Go.Ab
attribute [local irreducible] Go.Ab.tyAV Go.Ab.aw Go.Ab.aops Go.Ab.kReg Go.Ab.aThen Go.Ab.aBlk Go.Ab.acond Go.Ab.aguard Go.Ab.astep Go.Ab.AStepX Go.Ab.aRet
attribute [local irreducible] shaG

def encPS (p : Pr) : List UInt8 × Nat := if predB p = true then (encP p, 0) else ([], 5)
theorem encPS_len (p : Pr) : (encPS p).1.length ≤ 40 := by
  unfold encPS
  split
  · rename_i h; exact (encP_len p h).2
  · simp
theorem refEncP_spec (p : Pr) (hp0 : PrOk p) (k : Nat) : ACall Tryz.prog 136 [prAV p] k [] (encAV (encPS p)) [] := by
  unfold encPS encAV
  cases h : predB p with
  | false => exact (refEnc_bad p hp0 h k).result (AV.sub_tup (.cons AV.le_nils0 (.cons (AV.le_refl _) .nil)))
  | true => exact refEnc_spec p hp0 h k
def grantM (t : List UInt8) : List UInt8 := [103, 114, 97, 110, 116] ++ t
def sealM (t : List UInt8) : List UInt8 := [115, 101, 97, 108] ++ t
def condM (p : Pr) : List UInt8 := [99, 111, 110, 100, 105, 116, 105, 111, 110] ++ (encPS p).1
def bindM (leaf : Tg) (g n : Nat) : List UInt8 := [98, 105, 110, 100] ++ (leaf.1 ++ (leb g ++ leb n))
def reqM (g n : Nat) : List UInt8 := [114, 101, 113, 117, 101, 115, 116] ++ (leb g ++ leb n)
theorem condM_len (p : Pr) : (condM p).length ≤ 49 := by have := encPS_len p; simp [condM]; omega
theorem bindM_len (leaf : Tg) {g n : Nat} (hg : g ≤ 281474976710656) (hn : n ≤ 281474976710656) : (bindM leaf g n).length ≤ 60 := by
  have h1 := leb_len g 7 (by omega)
  have h2 := leb_len n 7 (by omega)
  simp [bindM, leaf.2]; omega
theorem reqM_len {g n : Nat} (hg : g ≤ 281474976710656) (hn : n ≤ 281474976710656) : (reqM g n).length ≤ 60 := by
  have h1 := leb_len g 7 (by omega)
  have h2 := leb_len n 7 (by omega)
  simp [reqM]; omega
theorem refGrantM_spec (t : List UInt8) (ht : t.length ≤ 1000000) (k : Nat) :
    ACall Tryz.prog 90 [.slice none (t.map byteAV)] k [] (.slice none ((grantM t).map byteAV)) [] := by
  have c2 := Word_spec [103, 114, 97, 110, 116] t (by decide) ht
  unfold grantM
  obtain ⟨M, hM⟩ : ∃ M, [103, 114, 97, 110, 116] ++ t = M := ⟨_, rfl⟩
  rw [hM] at c2 ⊢
  clear hM
  refine Bd Tryz.func90 Tryz.ntmps90 fun σ N hp hpn hk hkn hfree => ?_
  have hcs := And.intro c2 True.intro
  clear c2
  exact W0
theorem refSealM_spec (t : List UInt8) (ht : t.length ≤ 1000000) (k : Nat) :
    ACall Tryz.prog 171 [.slice none (t.map byteAV)] k [] (.slice none ((sealM t).map byteAV)) [] := by
  have c2 := Word_spec [115, 101, 97, 108] t (by decide) ht
  unfold sealM
  obtain ⟨M, hM⟩ : ∃ M, [115, 101, 97, 108] ++ t = M := ⟨_, rfl⟩
  rw [hM] at c2 ⊢
  clear hM
  refine Bd Tryz.func171 Tryz.ntmps171 fun σ N hp hpn hk hkn hfree => ?_
  have hcs := And.intro c2 True.intro
  clear c2
  exact W0
theorem refCondM_spec (p : Pr) (hp0 : PrOk p) (k : Nat) :
    ACall Tryz.prog 157 [prAV p] k [] (.slice none ((condM p).map byteAV)) [] := by
  have c1 := refEncP_spec p hp0
  have hl := encPS_len p
  have c2 := Word_spec [99, 111, 110, 100, 105, 116, 105, 111, 110] (encPS p).1 (by decide) (by omega)
  unfold encAV at c1
  unfold condM
  generalize encPS p = X at *
  obtain ⟨lb, e⟩ := X
  simp only at c1 c2 hl ⊢
  obtain ⟨M, hM⟩ : ∃ M, [99, 111, 110, 100, 105, 116, 105, 111, 110] ++ lb = M := ⟨_, rfl⟩
  rw [hM] at c2 ⊢
  clear hM
  refine Bd Tryz.func157 Tryz.ntmps157 fun σ N hp hpn hk hkn hfree => ?_
  have hcs := And.intro c1 (And.intro c2 True.intro)
  clear c1 c2
  exact W0
theorem requested_spec (g n : Nat) (hg : g ≤ 281474976710656) (hn : n ≤ 281474976710656) (k : Nat) :
    ACall Tryz.prog 172 [.agg [.lit (.int .i64 g), .lit (.int .i64 n)]] k [] (.slice none ((leb g ++ leb n).map byteAV)) [] := by
  have c1 := fun k => Number_spec g k (by omega)
  have c2 := fun k => Number_spec_f n k (by omega)
  have h1 := leb_len g 7 (by omega)
  have h2 := leb_len n 7 (by omega)
  rw [List.map_append]
  generalize leb g = G at *
  generalize leb n = Nn at *
  refine Bd Tryz.func172 Tryz.ntmps172 fun σ N hp hpn hk hkn hfree => ?_
  have hcs := And.intro c1 (And.intro c2 True.intro)
  clear c1 c2
  exact WM
theorem refBindM_spec (leaf : Tg) (g n : Nat) (hg : g ≤ 281474976710656) (hn : n ≤ 281474976710656) (k : Nat) :
    ACall Tryz.prog 173 [tagAV leaf, .agg [.lit (.int .i64 g), .lit (.int .i64 n)]] k [] (.slice none ((bindM leaf g n).map byteAV)) [] := by
  have c1 := requested_spec g n hg hn
  have h1 := leb_len g 7 (by omega)
  have h2 := leb_len n 7 (by omega)
  obtain ⟨R, hR⟩ : ∃ R, leb g ++ leb n = R := ⟨_, rfl⟩
  have hRl : R.length ≤ 100 := by rw [← hR, List.length_append]; omega
  unfold bindM
  rw [hR] at c1 ⊢
  have c2 := Word_spec [98, 105, 110, 100] (leaf.1 ++ R) (by decide) (by rw [List.length_append, leaf.2]; omega)
  obtain ⟨M, hM⟩ : ∃ M, [98, 105, 110, 100] ++ (leaf.1 ++ R) = M := ⟨_, rfl⟩
  rw [hM] at c2 ⊢
  have hs1 := tagAV_sz leaf
  have hs2 := tagAV_cell leaf
  obtain ⟨K, hK⟩ := leaf
  have hkA : tagAV ⟨K, hK⟩ = .agg (K.map byteAV) := rfl
  simp only [hkA] at hs1 hs2 c2 ⊢
  clear hkA hM
  have hs3 : AV.celll (K.map byteAV) = true := celll_bytes K
  have htk : (K.map byteAV).take 32 = K.map byteAV := List.take_of_length_le (by rw [List.length_map]; omega)
  rw [List.map_append] at c2
  refine Bd Tryz.func173 Tryz.ntmps173 fun σ N hp hpn hk hkn hfree => ?_
  have hcs := And.intro c1 (And.intro c2 True.intro)
  clear c1 c2
  exact W0
theorem refReqM_spec (g n : Nat) (hg : g ≤ 281474976710656) (hn : n ≤ 281474976710656) (k : Nat) :
    ACall Tryz.prog 108 [.agg [.lit (.int .i64 g), .lit (.int .i64 n)]] k [] (.slice none ((reqM g n).map byteAV)) [] := by
  have c1 := requested_spec g n hg hn
  have h1 := leb_len g 7 (by omega)
  have h2 := leb_len n 7 (by omega)
  obtain ⟨R, hR⟩ : ∃ R, leb g ++ leb n = R := ⟨_, rfl⟩
  have hRl : R.length ≤ 100 := by rw [← hR, List.length_append]; omega
  unfold reqM
  rw [hR] at c1 ⊢
  have c2 := Word_spec [114, 101, 113, 117, 101, 115, 116] R (by decide) (by omega)
  obtain ⟨M, hM⟩ : ∃ M, [114, 101, 113, 117, 101, 115, 116] ++ R = M := ⟨_, rfl⟩
  rw [hM] at c2 ⊢
  clear hM
  refine Bd Tryz.func108 Tryz.ntmps108 fun σ N hp hpn hk hkn hfree => ?_
  have hcs := And.intro c1 (And.intro c2 True.intro)
  clear c1 c2
  exact W0
/-- A request is in its range. -/
def rqB (r : Rq) : Bool := decide (0 ≤ r.gate) && decide (r.gate < 8) && decide (1 ≤ r.nonce) && decide (r.nonce ≤ 281474976710656)
theorem rqB_iff {r : Rq} : rqB r = true ↔ (0 ≤ r.gate ∧ r.gate < 8) ∧ 1 ≤ r.nonce ∧ r.nonce ≤ 281474976710656 := by
  unfold rqB; simp [Bool.and_eq_true, and_assoc]
theorem refRqOk_spec (r : Rq) (k : Nat) : ACall Tryz.prog 58 [rqAV r] k [] (.lit (.bool (rqB r))) [] := by
  obtain ⟨x, y⟩ := r
  unfold rqAV
  by_cases h1 : 0 ≤ x
  · by_cases h2 : x < 8
    · by_cases h3 : 1 ≤ y
      · by_cases h4 : y ≤ 281474976710656
        · have hr : rqB ⟨x, y⟩ = true := by simp [rqB, *]
          rw [hr]
          refine Bd Tryz.func58 Tryz.ntmps58 fun σ N hp hpn hk hkn hfree => ?_
          exact W0
        · have hr : rqB ⟨x, y⟩ = false := by simp [rqB, *]
          rw [hr]
          refine Bd Tryz.func58 Tryz.ntmps58 fun σ N hp hpn hk hkn hfree => ?_
          exact W0
      · have hr : rqB ⟨x, y⟩ = false := by simp [rqB, *]
        rw [hr]
        refine Bd Tryz.func58 Tryz.ntmps58 fun σ N hp hpn hk hkn hfree => ?_
        exact W0
    · have hr : rqB ⟨x, y⟩ = false := by simp [rqB, *]
      rw [hr]
      refine Bd Tryz.func58 Tryz.ntmps58 fun σ N hp hpn hk hkn hfree => ?_
      exact W0
  · have hr : rqB ⟨x, y⟩ = false := by simp [rqB, *]
    rw [hr]
    refine Bd Tryz.func58 Tryz.ntmps58 fun σ N hp hpn hk hkn hfree => ?_
    exact W0

section
variable [W : W32]
def restrS (a : Alg) (d : Di) (p : Pr) : Alg × Di × Nat :=
  if predB p = false then (alg0, di0, 5) else if p.kind = 7 then (alg0, di0, 6) else if 8 ≤ d.conds.length then (alg0, di0, 2) else
  if (macS a d.tag (condM p)).2.2 = 0 then ((macS a d.tag (condM p)).1, ⟨d.ticket, d.conds ++ [p], (macS a d.tag (condM p)).2.1⟩, 0) else (alg0, di0, (macS a d.tag (condM p)).2.2)
def mdAV (r : Alg × Di × Nat) : AV := .tup [algAV r.1, diAV r.2.1, .lit (.int .i64 (r.2.2 : Nat))]
theorem restrS_in {a : Alg} {m : Nat} (h : AlgIn a m) (d : Di) (p : Pr) : AlgIn (restrS a d p).1 (m + 1) := by
  unfold restrS
  split
  · exact alg0_in _
  · split
    · exact alg0_in _
    · split
      · exact alg0_in _
      · split
        · exact macS_in h _ _
        · exact alg0_in _
set_option maxHeartbeats 1000000 in
theorem refRestr_spec (a : Alg) (m : Nat) (ha : AlgIn a m) (hm : m ≤ 900000) (d : Di) (hdl : d.conds.length ≤ 10000) (p : Pr) (hp0 : PrOk p) (k : Nat) :
    ACall Tryz.prog 91 [algAV a, diAV d, prAV p] k [] (mdAV (restrS a d p)) [] := by
  have c1 := refPred_spec p hp0
  have c2 := refCondM_spec p hp0
  have c3 := Mac_spec a d.tag (condM p) (by have := ha.ml; omega) ha.mm
  unfold restrS
  obtain ⟨ti, L, tg⟩ := d
  simp only at hdl c3 ⊢
  generalize macS a tg (condM p) = X at *
  obtain ⟨a1, t1, e1'⟩ := X
  generalize condM p = M at *
  unfold mkAV at c3
  simp only at c3 ⊢
  have hpp : prAV p = .agg [.lit (.int .i64 p.kind), .lit (.int .u64 p.mask), .lit (.int .i64 p.frm), .lit (.int .i64 p.to), .lit (.string ⟨p.name.toArray⟩), .lit (.int .i64 p.num)] := rfl
  clear ha
  have hdA : diAV ⟨ti, L, tg⟩ = .agg [.slice none (ti.map byteAV), .slice none (L.map prAV), tagAV tg] := rfl
  rw [hdA]
  clear hdA
  cases hpv : predB p with
  | false =>
    rw [if_pos rfl]
    rw [hpv] at c1
    unfold mdAV
    simp only [alg0_eq, di0_eq]
    clear c2 c3 hpp
    refine Bd Tryz.func91 Tryz.ntmps91 fun σ N hp hpn hk hkn hfree => ?_
    have hcs := And.intro c1 True.intro
    clear c1
    refine Wk ?_
    exact WD
  | true =>
    rw [if_neg (by simp)]
    rw [hpv] at c1
    by_cases h7 : p.kind = 7
    · rw [if_pos h7]
      unfold mdAV
      simp only [alg0_eq, di0_eq]
      clear c2 c3
      rw [h7] at hpp
      refine Bd Tryz.func91 Tryz.ntmps91 fun σ N hp hpn hk hkn hfree => ?_
      have hcs := And.intro c1 True.intro
      clear c1
      refine Wk ?_
      exact WD
    · rw [if_neg h7]
      have h7b : (p.kind == 7) = false := by rw [beq_eq_false_iff_ne]; exact h7
      by_cases h8 : 8 ≤ L.length
      · rw [if_pos h8]
        have h8i : (8 : Int) ≤ (L.length : Int) := by omega
        unfold mdAV
        simp only [alg0_eq, di0_eq]
        clear c2 c3
        refine Bd Tryz.func91 Tryz.ntmps91 fun σ N hp hpn hk hkn hfree => ?_
        have hcs := And.intro c1 True.intro
        clear c1
        refine Wk ?_
        exact WD
      · rw [if_neg h8]
        have h8i : ¬ (8 : Int) ≤ (L.length : Int) := by omega
        have hb : (L.length + 1) * 56 ≤ 140737488355328 := by omega
        have hb0 : L.length * 56 ≤ 140737488355328 := by omega
        have hb1 : L.length ≤ 140737488355327 := by omega
        by_cases he : e1' = 0
        · subst he
          rw [if_pos rfl]
          unfold mdAV diAV
          simp only [List.map_append, List.map_cons, List.map_nil]
          refine Bd Tryz.func91 Tryz.ntmps91 fun σ N hp hpn hk hkn hfree => ?_
          have hcs := And.intro c1 (And.intro c2 (And.intro c3 True.intro))
          clear c1 c2 c3
          refine Wk ?_
          exact WD
        · rw [if_neg he]
          have h1i : ((e1' : Int) != 0) = true := by simp; omega
          unfold mdAV
          simp only [alg0_eq, di0_eq]
          refine Bd Tryz.func91 Tryz.ntmps91 fun σ N hp hpn hk hkn hfree => ?_
          have hcs := And.intro c1 (And.intro c2 (And.intro c3 True.intro))
          clear c1 c2 c3
          refine Wk ?_
          exact WD
def bindS (a : Alg) (d : Di) (leaf : Tg) (r : Rq) : Alg × Bo × Nat :=
  if rqB r = false then (alg0, bo0, 1) else
  if (macS a d.tag (bindM leaf r.gate.toNat r.nonce.toNat)).2.2 = 0 then ((macS a d.tag (bindM leaf r.gate.toNat r.nonce.toNat)).1, ⟨d.ticket, d.conds, (macS a d.tag (bindM leaf r.gate.toNat r.nonce.toNat)).2.1⟩, 0) else (alg0, bo0, (macS a d.tag (bindM leaf r.gate.toNat r.nonce.toNat)).2.2)
def mbAV (r : Alg × Bo × Nat) : AV := .tup [algAV r.1, boAV r.2.1, .lit (.int .i64 (r.2.2 : Nat))]
theorem bindS_in {a : Alg} {m : Nat} (h : AlgIn a m) (d : Di) (leaf : Tg) (r : Rq) : AlgIn (bindS a d leaf r).1 (m + 1) := by
  unfold bindS
  split
  · exact alg0_in _
  · split
    · exact macS_in h _ _
    · exact alg0_in _
theorem refBind_spec (a : Alg) (m : Nat) (ha : AlgIn a m) (hm : m ≤ 900000) (d : Di) (leaf : Tg) (r : Rq) (k : Nat) :
    ACall Tryz.prog 109 [algAV a, diAV d, tagAV leaf, rqAV r] k [] (mbAV (bindS a d leaf r)) [] := by
  have c1 := refRqOk_spec r
  unfold bindS
  cases hr : rqB r with
  | false =>
    rw [if_pos rfl]
    rw [hr] at c1
    unfold mbAV
    simp only [alg0_eq, bo0_eq]
    clear ha
    refine Bd Tryz.func109 Tryz.ntmps109 fun σ N hp hpn hk hkn hfree => ?_
    have hcs := And.intro c1 True.intro
    clear c1
    refine Wk ?_
    exact WD
  | true =>
    rw [if_neg (by simp)]
    rw [hr] at c1
    obtain ⟨⟨h1, h2⟩, h3, h4⟩ := rqB_iff.1 hr
    obtain ⟨x, y⟩ := r
    simp only at h1 h2 h3 h4 ⊢
    obtain ⟨x, rfl⟩ := Int.eq_ofNat_of_zero_le h1
    obtain ⟨y, rfl⟩ := Int.eq_ofNat_of_zero_le (show 0 ≤ y by omega)
    simp only [Int.toNat_natCast]
    have c2 := refBindM_spec leaf x y (by omega) (by omega)
    have c3 := Mac_spec a d.tag (bindM leaf x y) (by have := ha.ml; omega) ha.mm
    generalize macS a d.tag (bindM leaf x y) = X at *
    obtain ⟨a1, t1, e1'⟩ := X
    generalize bindM leaf x y = M at *
    obtain ⟨ti, L, tg⟩ := d
    unfold mkAV at c3
    unfold rqAV at *
    simp only at c1 c3 ⊢
    clear ha hr h1 h2 h3 h4
    have hdA : diAV ⟨ti, L, tg⟩ = .agg [.slice none (ti.map byteAV), .slice none (L.map prAV), tagAV tg] := rfl
    rw [hdA]
    clear hdA
    by_cases he : e1' = 0
    · subst he
      rw [if_pos rfl]
      unfold mbAV boAV
      simp only
      refine Bd Tryz.func109 Tryz.ntmps109 fun σ N hp hpn hk hkn hfree => ?_
      have hcs := And.intro c1 (And.intro c2 (And.intro c3 True.intro))
      clear c1 c2 c3
      refine Wk ?_
      exact WD
    · rw [if_neg he]
      have h1i : ((e1' : Int) != 0) = true := by simp; omega
      unfold mbAV
      simp only [alg0_eq, bo0_eq]
      refine Bd Tryz.func109 Tryz.ntmps109 fun σ N hp hpn hk hkn hfree => ?_
      have hcs := And.intro c1 (And.intro c2 (And.intro c3 True.intro))
      clear c1 c2 c3
      refine Wk ?_
      exact WD
end
end Go.Proofs.YtemmlldpmgfblaaGreatDoor

/- Passes of the reference: Thirds, Attenuate. -/
namespace Go.Proofs.YtemmlldpmgfblaaGreatDoor
open Go.Ab
attribute [local irreducible] Go.Ab.tyAV Go.Ab.aw Go.Ab.aops Go.Ab.kReg Go.Ab.aThen Go.Ab.aBlk Go.Ab.acond Go.Ab.aguard Go.Ab.astep Go.Ab.AStepX Go.Ab.aRet
attribute [local irreducible] shaG

def thirdsS (l : List Ca) : Nat := l.length - (firstsS l).length
theorem refThirds_spec (l : List Ca) (hl : l.length ≤ 10000) (k : Nat) :
    ACall Tryz.prog 59 [.slice none (l.map caAV)] k [] (.lit (.int .i64 (thirdsS l : Nat))) [] := by
  have c1 := refFirsts_gen l _ rfl hl
  have h1 := firsts_len l
  have h2 : ((thirdsS l : Nat) : Int) = (l.length : Int) - ((firstsS l).length : Int) := by unfold thirdsS; omega
  rw [h2]
  generalize firstsS l = R at *
  clear h2
  refine Bd Tryz.func59 Tryz.ntmps59 fun σ N hp hpn hk hkn hfree => ?_
  have hcs := And.intro c1 True.intro
  clear c1
  exact W0
section
variable [W : W32]
def attS (a : Alg) (p : Pa) (c : Ca) : Alg × Pa × Nat :=
  if cavB c = false then (alg0, pa0, 5) else if 64 ≤ p.cavs.length ∨ (c.third = true ∧ 8 ≤ thirdsS p.cavs) then (alg0, pa0, 2) else
  if (nodeS a p.tag (cavM c)).2.2 = 0 then ((nodeS a p.tag (cavM c)).1, ⟨p.epoch, p.serial, p.cavs ++ [c], (nodeS a p.tag (cavM c)).2.1⟩, 0) else (alg0, pa0, (nodeS a p.tag (cavM c)).2.2)
theorem attS_in {a : Alg} {m : Nat} (h : AlgIn a m) (p : Pa) (c : Ca) : AlgIn (attS a p c).1 (m + 2) := by
  unfold attS
  split
  · exact alg0_in _
  · split
    · exact alg0_in _
    · split
      · exact nodeS_in h _ _
      · exact alg0_in _
set_option maxHeartbeats 1000000 in
theorem refAtt_spec (a : Alg) (m : Nat) (ha : AlgIn a m) (hm : m ≤ 900000) (p : Pa) (hpl : p.cavs.length ≤ 10000) (c : Ca) (hp0 : PrOk c.first) (k : Nat) :
    ACall Tryz.prog 170 [algAV a, paAV p, caAV c] k [] (mpAV (attS a p c)) [] := by
  have c1 := refCav_spec c hp0
  have c2 := refThirds_spec p.cavs hpl
  have c3 := refcavM_spec c hp0
  have c4 := refnode_spec a m ha hm p.tag (cavM c)
  unfold attS
  generalize hT : thirdsS p.cavs = T at *
  have hT2 : T ≤ 10000 := by rw [← hT]; unfold thirdsS; omega
  clear hT
  obtain ⟨ep, se, L, tg⟩ := p
  simp only at hpl c2 c4 ⊢
  generalize nodeS a tg (cavM c) = X at *
  obtain ⟨a1, t1, e1'⟩ := X
  generalize cavM c = M at *
  unfold mkAV at c4
  simp only at c4 ⊢
  have hcc : caAV c = .agg [.lit (.bool c.third), prAV c.first, .lit (.int .i64 c.party), .slice none (c.ticket.map byteAV), .slice none (c.box.map byteAV)] := rfl
  cases hcv : cavB c with
  | false =>
    rw [if_pos rfl]
    rw [hcv] at c1
    unfold mpAV paAV pa0
    simp only [alg0_eq, List.map_nil]
    clear c2 c3 c4 ha hcc
    refine Bd Tryz.func170 Tryz.ntmps170 fun σ N hp hpn hk hkn hfree => ?_
    have hcs := And.intro c1 True.intro
    clear c1
    refine Wk ?_
    exact WD
  | true =>
    rw [if_neg (by simp)]
    rw [hcv] at c1
    by_cases h64 : 64 ≤ L.length
    · rw [if_pos (.inl h64)]
      have h64i : (64 : Int) ≤ (L.length : Int) := by omega
      unfold mpAV paAV pa0
      simp only [alg0_eq, List.map_nil]
      clear c2 c3 c4 ha hcc
      refine Bd Tryz.func170 Tryz.ntmps170 fun σ N hp hpn hk hkn hfree => ?_
      have hcs := And.intro c1 True.intro
      clear c1
      refine Wk ?_
      exact WD
    · have h64i : ¬ (64 : Int) ≤ (L.length : Int) := by omega
      have hb : (L.length + 1) * 120 ≤ 140737488355328 := by omega
      have hb0 : L.length * 120 ≤ 140737488355328 := by omega
      have hb1 : L.length ≤ 140737488355327 := by omega
      cases hth : c.third with
      | true =>
        rw [hth] at hcc
        by_cases h8 : 8 ≤ T
        · rw [if_pos (.inr ⟨rfl, h8⟩)]
          have h8i : (8 : Int) ≤ (T : Int) := by omega
          unfold mpAV paAV pa0
          simp only [alg0_eq, List.map_nil]
          clear c3 c4 ha
          refine Bd Tryz.func170 Tryz.ntmps170 fun σ N hp hpn hk hkn hfree => ?_
          have hcs := And.intro c1 (And.intro c2 True.intro)
          clear c1 c2
          refine Wk ?_
          exact WD
        · rw [if_neg (by rintro (h | ⟨_, h⟩) <;> omega)]
          have h8i : ¬ (8 : Int) ≤ (T : Int) := by omega
          by_cases he : e1' = 0
          · subst he
            rw [if_pos rfl]
            unfold mpAV paAV
            simp only [List.map_append, List.map_cons, List.map_nil]
            clear ha
            refine Bd Tryz.func170 Tryz.ntmps170 fun σ N hp hpn hk hkn hfree => ?_
            have hcs := And.intro c1 (And.intro c2 (And.intro c3 (And.intro c4 True.intro)))
            clear c1 c2 c3 c4
            refine Wk ?_
            exact WD
          · rw [if_neg he]
            have h1i : ((e1' : Int) != 0) = true := by simp; omega
            unfold mpAV paAV pa0
            simp only [alg0_eq, List.map_nil]
            clear ha
            refine Bd Tryz.func170 Tryz.ntmps170 fun σ N hp hpn hk hkn hfree => ?_
            have hcs := And.intro c1 (And.intro c2 (And.intro c3 (And.intro c4 True.intro)))
            clear c1 c2 c3 c4
            refine Wk ?_
            exact WD
      | false =>
        rw [hth] at hcc
        rw [if_neg (by rintro (h | ⟨h, _⟩); · omega
                       · cases h)]
        by_cases he : e1' = 0
        · subst he
          rw [if_pos rfl]
          unfold mpAV paAV
          simp only [List.map_append, List.map_cons, List.map_nil]
          clear ha c2
          refine Bd Tryz.func170 Tryz.ntmps170 fun σ N hp hpn hk hkn hfree => ?_
          have hcs := And.intro c1 (And.intro c3 (And.intro c4 True.intro))
          clear c1 c3 c4
          refine Wk ?_
          exact WD
        · rw [if_neg he]
          have h1i : ((e1' : Int) != 0) = true := by simp; omega
          unfold mpAV paAV pa0
          simp only [alg0_eq, List.map_nil]
          clear ha c2
          refine Bd Tryz.func170 Tryz.ntmps170 fun σ N hp hpn hk hkn hfree => ?_
          have hcs := And.intro c1 (And.intro c3 (And.intro c4 True.intro))
          clear c1 c3 c4
          refine Wk ?_
          exact WD
end
end Go.Proofs.YtemmlldpmgfblaaGreatDoor

/- Tickets of the reference: Blank, OpenTicket, Add. -/
namespace Go.Proofs.YtemmlldpmgfblaaGreatDoor
open Go.Ab
attribute [local irreducible] Go.Ab.tyAV Go.Ab.aw Go.Ab.aops Go.Ab.kReg Go.Ab.aThen Go.Ab.aBlk Go.Ab.acond Go.Ab.aguard Go.Ab.astep Go.Ab.AStepX Go.Ab.aRet
attribute [local irreducible] shaG

def teB (t : Te) : Bool := decide (0 ≤ t.least) && decide (t.least ≤ t.most) && decide (t.most ≤ 150)
theorem teB_iff {t : Te} : teB t = true ↔ 0 ≤ t.least ∧ t.least ≤ t.most ∧ t.most ≤ 150 := by
  unfold teB; simp [Bool.and_eq_true, and_assoc]
theorem refTerms_spec (t : Te) (k : Nat) : ACall Tryz.prog 74 [teAV t] k [] (.lit (.bool (teB t))) [] := by
  obtain ⟨x, y⟩ := t
  unfold teAV
  by_cases h1 : 0 ≤ x
  · by_cases h2 : x ≤ y
    · by_cases h3 : y ≤ 150
      · have hr : teB ⟨x, y⟩ = true := by simp [teB, *]
        rw [hr]
        refine Bd Tryz.func74 Tryz.ntmps74 fun σ N hp hpn hk hkn hfree => ?_
        exact W0
      · have hr : teB ⟨x, y⟩ = false := by simp [teB, *]
        rw [hr]
        refine Bd Tryz.func74 Tryz.ntmps74 fun σ N hp hpn hk hkn hfree => ?_
        exact W0
    · have hr : teB ⟨x, y⟩ = false := by simp [teB, *]
      rw [hr]
      refine Bd Tryz.func74 Tryz.ntmps74 fun σ N hp hpn hk hkn hfree => ?_
      exact W0
  · have hr : teB ⟨x, y⟩ = false := by simp [teB, *]
    rw [hr]
    refine Bd Tryz.func74 Tryz.ntmps74 fun σ N hp hpn hk hkn hfree => ?_
    exact W0

/-- The key and the terms of sealed bytes. -/
def readT (b : List UInt8) : Tg × Te × Nat :=
  if (tagR b 0).2.2 ≠ 0 then (zeroTag, te0, 5) else
  if (numR b 32).2.2 ≠ 0 then (zeroTag, te0, 5) else if (numR b (numR b 32).2.1).2.2 ≠ 0 then (zeroTag, te0, 5) else
  if (numR b (numR b 32).2.1).2.1 ≠ b.length ∨ teB ⟨(numR b 32).1, (numR b (numR b 32).2.1).1⟩ = false then (zeroTag, te0, 5) else
  ((tagR b 0).1, ⟨(numR b 32).1, (numR b (numR b 32).2.1).1⟩, 0)
def moAV (r : Tg × Te × Nat) : AV := .tup [tagAV r.1, teAV r.2.1, .lit (.int .i64 (r.2.2 : Nat))]
section
variable [W : W32]
def openT (a : Alg) (c : Co) (t : List UInt8) : Tg × Te × Nat := if (openS a c.key t).2 ≠ 0 then (zeroTag, te0, (openS a c.key t).2) else readT (openS a c.key t).1
set_option maxHeartbeats 1000000 in
theorem refOpenT_spec (a : Alg) (m : Nat) (ha : AlgIn a m) (hm : m ≤ 900000) (c : Co) (t : List UInt8) (ht : t.length ≤ 100000) (k : Nat) :
    ACall Tryz.prog 87 [algAV a, concAV c, .slice none (t.map byteAV)] k [] (moAV (openT a c t)) [] := by
  obtain ⟨cpa, cke, cps⟩ := c
  have c1 := refOpen_spec a m ha hm cke t ht
  have hbl := openS_len a m ha cke t ht
  unfold openT
  simp only
  unfold soAV at c1
  generalize openS a cke t = X at *
  obtain ⟨b, e⟩ := X
  simp only at c1 hbl ⊢
  clear ha
  unfold moAV
  by_cases he : e = 0
  · subst he
    rw [if_neg (by simp)]
    unfold readT
    have t1 := fun d => RTag_spec b 0 (by omega) (by omega) d
    by_cases hs : (tagR b 0).2.2 = 0
    · rw [if_neg (by simpa using hs)]
      have hs2 : (tagR b 0).2.1 = 32 := tagR_used hs
      have hs3 : 32 ≤ b.length := tagR_len hs
      generalize tagR b 0 = T at *
      obtain ⟨kt, u0, e0⟩ := T
      simp only at hs hs2 t1 ⊢
      subst hs
      subst hs2
      have n1 := fun d => RNum_spec b 32 hs3 (by omega) d
      have l1 := numR_le (b := b) hs3
      by_cases h1 : (numR b 32).2.2 = 0
      · rw [if_neg (by simpa using h1)]
        generalize numR b 32 = Y at *
        obtain ⟨v1, u1, e1'⟩ := Y
        simp only at h1 n1 l1 ⊢
        subst h1
        have n2 := fun d => RNum_spec b u1 l1 (by omega) d
        by_cases h2 : (numR b u1).2.2 = 0
        · rw [if_neg (by simpa using h2)]
          generalize numR b u1 = Z at *
          obtain ⟨v2, u2, e2'⟩ := Z
          simp only at h2 n2 ⊢
          subst h2
          by_cases h3 : u2 = b.length
          · subst h3
            have n3 := refTerms_spec ⟨(v1 : Nat), (v2 : Nat)⟩
            cases h4 : teB ⟨(v1 : Nat), (v2 : Nat)⟩ with
            | false =>
              rw [if_pos (.inr rfl)]
              rw [h4] at n3
              unfold teAV at *
              simp only [te0] at *
              simp only [RdBox] at *
              refine Bd Tryz.func87 Tryz.ntmps87 fun σ N hp hpn hk hkn hfree => ?_
              have hcs := And.intro c1 (And.intro (t1 (N + 17 + 2)) (And.intro (n1 (N + 17 + 2)) (And.intro (n2 (N + 17 + 2)) (And.intro n3 True.intro))))
              clear c1 t1 n1 n2 n3
              refine Wk ?_
              exact WD
            | true =>
              rw [if_neg (by simp)]
              rw [h4] at n3
              unfold teAV at *
              simp only at *
              simp only [RdBox] at *
              refine Bd Tryz.func87 Tryz.ntmps87 fun σ N hp hpn hk hkn hfree => ?_
              have hcs := And.intro c1 (And.intro (t1 (N + 17 + 2)) (And.intro (n1 (N + 17 + 2)) (And.intro (n2 (N + 17 + 2)) (And.intro n3 True.intro))))
              clear c1 t1 n1 n2 n3
              refine Wk ?_
              exact WD
          · rw [if_pos (.inl h3)]
            have h3i : ((u2 : Int) != (b.length : Int)) = true := by simp; omega
            unfold teAV
            simp only [te0]
            simp only [RdBox] at *
            refine Bd Tryz.func87 Tryz.ntmps87 fun σ N hp hpn hk hkn hfree => ?_
            have hcs := And.intro c1 (And.intro (t1 (N + 17 + 2)) (And.intro (n1 (N + 17 + 2)) (And.intro (n2 (N + 17 + 2)) True.intro)))
            clear c1 t1 n1 n2
            refine Wk ?_
            exact WD
        · rw [if_pos (by simpa using h2)]
          generalize numR b u1 = Z at *
          obtain ⟨v2, u2, e2'⟩ := Z
          simp only at h2 n2 ⊢
          have h2i : ((e2' : Int) != 0) = true := by simp; omega
          unfold teAV
          simp only [te0]
          simp only [RdBox] at *
          refine Bd Tryz.func87 Tryz.ntmps87 fun σ N hp hpn hk hkn hfree => ?_
          have hcs := And.intro c1 (And.intro (t1 (N + 17 + 2)) (And.intro (n1 (N + 17 + 2)) (And.intro (n2 (N + 17 + 2)) True.intro)))
          clear c1 t1 n1 n2
          refine Wk ?_
          exact WD
      · rw [if_pos (by simpa using h1)]
        generalize numR b 32 = Y at *
        obtain ⟨v1, u1, e1'⟩ := Y
        simp only at h1 n1 l1 ⊢
        have h1i : ((e1' : Int) != 0) = true := by simp; omega
        have n2 := fun d => RNum_off b u1 e1' h1 d
        unfold teAV
        simp only [te0]
        simp only [RdBox] at *
        refine Bd Tryz.func87 Tryz.ntmps87 fun σ N hp hpn hk hkn hfree => ?_
        have hcs := And.intro c1 (And.intro (t1 (N + 17 + 2)) (And.intro (n1 (N + 17 + 2)) (And.intro (n2 (N + 17 + 2)) True.intro)))
        clear c1 t1 n1 n2
        refine Wk ?_
        exact WD
    · rw [if_pos (by simpa using hs)]
      generalize tagR b 0 = T at *
      obtain ⟨kt, u0, e0⟩ := T
      simp only at hs t1 ⊢
      have h1i : ((e0 : Int) != 0) = true := by simp; omega
      have n1 := fun d => RNum_off b u0 e0 hs d
      have n2 := fun d => RNum_off b u0 e0 hs d
      unfold teAV
      simp only [te0]
      simp only [RdBox] at *
      refine Bd Tryz.func87 Tryz.ntmps87 fun σ N hp hpn hk hkn hfree => ?_
      have hcs := And.intro c1 (And.intro (t1 (N + 17 + 2)) (And.intro (n1 (N + 17 + 2)) (And.intro (n2 (N + 17 + 2)) True.intro)))
      clear c1 t1 n1 n2
      refine Wk ?_
      exact WD
  · rw [if_pos he]
    have h1i : ((e : Int) != 0) = true := by simp; omega
    simp only [te0_eq]
    refine Bd Tryz.func87 Tryz.ntmps87 fun σ N hp hpn hk hkn hfree => ?_
    have hcs := And.intro c1 True.intro
    clear c1
    refine Wk ?_
    exact WD

def plainT (k : Tg) (t : Te) : List UInt8 := k.1 ++ (leb t.least.toNat ++ leb t.most.toNat)
omit W in
theorem plainT_len (k : Tg) (t : Te) (h : teB t = true) : (plainT k t).length ≤ 50 := by
  obtain ⟨h1, h2, h3⟩ := teB_iff.1 h
  have a := leb_len t.least.toNat 7 (by omega)
  have b := leb_len t.most.toNat 7 (by omega)
  simp [plainT, k.2]; omega
def blankS (a : Alg) (c : Co) (t : Te) : Alg × Bl × Nat :=
  if teB t = false ∨ c.party < 0 ∨ 7 < c.party then (alg0, bl0, 1) else
  if (keyS a).2.2 = 0 then
    if (sealS (keyS a).1 c.key (keyS a).1.fresh (plainT (keyS a).2.1 t)).2.2 = 0 then ((sealS (keyS a).1 c.key (keyS a).1.fresh (plainT (keyS a).2.1 t)).1, ⟨c.party, (keyS a).2.1, (sealS (keyS a).1 c.key (keyS a).1.fresh (plainT (keyS a).2.1 t)).2.1⟩, 0)
    else (alg0, bl0, (sealS (keyS a).1 c.key (keyS a).1.fresh (plainT (keyS a).2.1 t)).2.2)
  else (alg0, bl0, (keyS a).2.2)
def mlAV (r : Alg × Bl × Nat) : AV := .tup [algAV r.1, blAV r.2.1, .lit (.int .i64 (r.2.2 : Nat))]
theorem blankS_in {a : Alg} {m : Nat} (h : AlgIn a m) (c : Co) (t : Te) : AlgIn (blankS a c t).1 (m + 2) := by
  unfold blankS
  split
  · exact alg0_in _
  · split
    · split
      · exact sealS_in (keyS_in h) _ _ _
      · exact alg0_in _
    · exact alg0_in _
set_option maxHeartbeats 1000000 in
theorem refBlank_spec (a : Alg) (m : Nat) (ha : AlgIn a m) (hm : m ≤ 900000) (c : Co) (t : Te) (k : Nat) :
    ACall Tryz.prog 30 [algAV a, concAV c, teAV t] k [] (mlAV (blankS a c t)) [] := by
  have c1 := refTerms_spec t
  have c2 := Key_spec a ha.f0
  have hin := keyS_in ha
  have hpl := plainT_len (keyS a).2.1 t
  unfold blankS
  unfold mlAV
  generalize hX : keyS a = X at *
  obtain ⟨a1, kt, e1'⟩ := X
  unfold mkAV at c2
  simp only at c2 hin hpl ⊢
  clear ha hX
  cases ht : teB t with
  | false =>
    rw [if_pos (.inl rfl)]
    rw [ht] at c1
    simp only [alg0_eq, bl0_eq]
    clear c2
    refine Bd Tryz.func30 Tryz.ntmps30 fun σ N hp hpn hk hkn hfree => ?_
    have hcs := And.intro c1 True.intro
    clear c1
    refine Wk ?_
    exact WD
  | true =>
    rw [ht] at c1
    have hpl := hpl ht
    have ht0 := teB_iff.1 ht
    obtain ⟨pa, ck, ps⟩ := c
    simp only
    by_cases hp1 : pa < 0
    · rw [if_pos (.inr (.inl hp1))]
      simp only [alg0_eq, bl0_eq]
      clear c2
      refine Bd Tryz.func30 Tryz.ntmps30 fun σ N hp hpn hk hkn hfree => ?_
      have hcs := And.intro c1 True.intro
      clear c1
      refine Wk ?_
      exact WD
    · by_cases hp2 : 7 < pa
      · rw [if_pos (.inr (.inr hp2))]
        simp only [alg0_eq, bl0_eq]
        clear c2
        refine Bd Tryz.func30 Tryz.ntmps30 fun σ N hp hpn hk hkn hfree => ?_
        have hcs := And.intro c1 True.intro
        clear c1
        refine Wk ?_
        exact WD
      · rw [if_neg (by rintro (h | h | h); · cases h
                       · exact hp1 h
                       · exact hp2 h)]
        by_cases h1 : e1' = 0
        · subst h1
          rw [if_pos rfl]
          have c5 := Seal_spec a1 ck a1.fresh (plainT kt t) (by have := hin.bl; omega) hin.bm
          obtain ⟨x, y⟩ := t
          simp only at ht0
          obtain ⟨q1, q2, q3⟩ := ht0
          obtain ⟨x, rfl⟩ := Int.eq_ofNat_of_zero_le q1
          obtain ⟨y, rfl⟩ := Int.eq_ofNat_of_zero_le (show 0 ≤ y by omega)
          have c3 := fun k => Number_spec_f x k (by omega)
          have c4 := fun k => Number_spec_f y k (by omega)
          have hl1 := leb_len x 7 (by omega)
          have hl2 := leb_len y 7 (by omega)
          unfold skAV at c5
          obtain ⟨pl, hplE⟩ : ∃ pl, plainT kt ⟨(x : Nat), (y : Nat)⟩ = pl := ⟨_, rfl⟩
          have hplm : (kt.1.map byteAV ++ (leb x).map byteAV) ++ (leb y).map byteAV = pl.map byteAV := by
            rw [← hplE]; simp [plainT]
          have hpll : pl.length = 32 + ((leb x).length + (leb y).length) := by rw [← hplE]; simp [plainT, kt.2]
          rw [hplE] at c5 ⊢
          generalize sealS a1 ck a1.fresh pl = Z at *
          obtain ⟨a2, b2, e2'⟩ := Z
          simp only at c5 ⊢
          generalize leb x = lx at *
          generalize leb y = ly at *
          have hs1 := tagAV_sz kt
          have hs2 := tagAV_cell kt
          obtain ⟨K, hK⟩ := kt
          have hkA : tagAV ⟨K, hK⟩ = .agg (K.map byteAV) := rfl
          simp only [hkA] at hs1 hs2 c2 hplm ⊢
          clear hplE hin hpl ht
          have hs3 : AV.celll (K.map byteAV) = true := celll_bytes K
          have htk : (K.map byteAV).take 32 = K.map byteAV := List.take_of_length_le (by rw [List.length_map]; omega)
          unfold teAV at *
          simp only at c1
          have haA : algAV a1 = .agg [.lit (.bool a1.free), tagAV a1.seed, .lit (.int .i64 a1.fresh), .slice none (a1.macs.map macAV), .slice none (a1.boxes.map sealAV)] := rfl
          by_cases h2 : e2' = 0
          · subst h2
            rw [if_pos rfl]
            unfold blAV
            simp only [hkA]
            clear hkA
            refine Bd Tryz.func30 Tryz.ntmps30 fun σ N hp hpn hk hkn hfree => ?_
            have hcs := And.intro c1 (And.intro c2 (And.intro c3 (And.intro c4 (And.intro c5 True.intro))))
            clear c1 c2 c3 c4 c5
            refine Wk ?_
            exact WD
          · rw [if_neg h2]
            have h2i : ((e2' : Int) != 0) = true := by simp; omega
            simp only [alg0_eq, bl0_eq]
            clear hkA
            refine Bd Tryz.func30 Tryz.ntmps30 fun σ N hp hpn hk hkn hfree => ?_
            have hcs := And.intro c1 (And.intro c2 (And.intro c3 (And.intro c4 (And.intro c5 True.intro))))
            clear c1 c2 c3 c4 c5
            refine Wk ?_
            exact WD
        · rw [if_neg h1]
          have h1i : ((e1' : Int) != 0) = true := by simp; omega
          simp only [alg0_eq, bl0_eq]
          refine Bd Tryz.func30 Tryz.ntmps30 fun σ N hp hpn hk hkn hfree => ?_
          have hcs := And.intro c1 (And.intro c2 True.intro)
          clear c1 c2
          refine Wk ?_
          exact WD
def addS (a : Alg) (p : Pa) (b : Bl) : Alg × Pa × Nat :=
  if (macS a p.tag (sealM b.ticket)).2.2 = 0 then
    if (sealS (macS a p.tag (sealM b.ticket)).1 (macS a p.tag (sealM b.ticket)).2.1 0 b.key.1).2.2 = 0 then
      attS (sealS (macS a p.tag (sealM b.ticket)).1 (macS a p.tag (sealM b.ticket)).2.1 0 b.key.1).1 p ⟨true, zeroPr, b.party, b.ticket, (sealS (macS a p.tag (sealM b.ticket)).1 (macS a p.tag (sealM b.ticket)).2.1 0 b.key.1).2.1⟩
    else (alg0, pa0, (sealS (macS a p.tag (sealM b.ticket)).1 (macS a p.tag (sealM b.ticket)).2.1 0 b.key.1).2.2)
  else (alg0, pa0, (macS a p.tag (sealM b.ticket)).2.2)
theorem addS_in {a : Alg} {m : Nat} (h : AlgIn a m) (p : Pa) (b : Bl) : AlgIn (addS a p b).1 (m + 4) := by
  unfold addS
  split
  · split
    · exact attS_in (sealS_in (macS_in h _ _) _ _ _) _ _
    · exact alg0_in _
  · exact alg0_in _
set_option maxHeartbeats 1000000 in
theorem refAdd_spec (a : Alg) (m : Nat) (ha : AlgIn a m) (hm : m ≤ 800000) (p : Pa) (hpl : p.cavs.length ≤ 10000) (b : Bl) (hb : b.ticket.length ≤ 100000) (k : Nat) :
    ACall Tryz.prog 107 [algAV a, paAV p, blAV b] k [] (mpAV (addS a p b)) [] := by
  have c1 := refSealM_spec b.ticket (by omega)
  have c2 := Mac_spec a p.tag (sealM b.ticket) (by have := ha.ml; omega) ha.mm
  have hin := macS_in ha p.tag (sealM b.ticket)
  unfold addS
  generalize macS a p.tag (sealM b.ticket) = X at *
  obtain ⟨a1, t1, e1'⟩ := X
  unfold mkAV at c2
  simp only at c2 hin ⊢
  have c3 := Seal_spec a1 t1 0 b.key.1 (by have := hin.bl; omega) hin.bm
  have hin2 := sealS_in hin t1 0 b.key.1
  generalize sealS a1 t1 0 b.key.1 = Y at *
  obtain ⟨a2, x2, e2'⟩ := Y
  unfold skAV at c3
  simp only at c3 hin2 ⊢
  have c4 := refAtt_spec a2 (m + 1 + 1) hin2 (by omega) p hpl ⟨true, zeroPr, b.party, b.ticket, x2⟩ zeroPr_ok
  generalize attS a2 p ⟨true, zeroPr, b.party, b.ticket, x2⟩ = Z at *
  obtain ⟨a3, p3, e3'⟩ := Z
  generalize sealM b.ticket = M at *
  clear hin hin2 ha
  obtain ⟨ep, se, L, tg⟩ := p
  obtain ⟨bp, bk, bt⟩ := b
  simp only at c1 c2 c3 c4 hb
  have hs1 := tagAV_sz bk
  have hs2 := tagAV_cell bk
  obtain ⟨K, hK⟩ := bk
  have hkA : tagAV ⟨K, hK⟩ = .agg (K.map byteAV) := rfl
  have hs3 : AV.celll (K.map byteAV) = true := celll_bytes K
  have htk : (K.map byteAV).take 32 = K.map byteAV := List.take_of_length_le (by rw [List.length_map]; omega)
  have hzp : prAV zeroPr = .agg [.lit (.int .i64 0), .lit (.int .u64 0), .lit (.int .i64 0), .lit (.int .i64 0), .lit (.string ⟨#[]⟩), .lit (.int .i64 0)] := rfl
  have hpA : paAV ⟨ep, se, L, tg⟩ = .agg [.lit (.int .i64 ep), .lit (.int .i64 se), .slice none (L.map caAV), tagAV tg] := rfl
  unfold mpAV caAV blAV at *
  simp only [hkA, hzp] at *
  clear hkA hzp
  by_cases h1 : e1' = 0
  · subst h1
    rw [if_pos rfl]
    by_cases h2 : e2' = 0
    · subst h2
      rw [if_pos rfl]
      simp only
      refine Bd Tryz.func107 Tryz.ntmps107 fun σ N hp hpn hk hkn hfree => ?_
      have hcs := And.intro c1 (And.intro c2 (And.intro c3 (And.intro c4 True.intro)))
      clear c1 c2 c3 c4
      refine Wk ?_
      exact WD
    · rw [if_neg h2]
      have h2i : ((e2' : Int) != 0) = true := by simp; omega
      simp only [alg0_eq, pa0_eq]
      refine Bd Tryz.func107 Tryz.ntmps107 fun σ N hp hpn hk hkn hfree => ?_
      have hcs := And.intro c1 (And.intro c2 (And.intro c3 True.intro))
      clear c1 c2 c3 c4
      refine Wk ?_
      exact WD
  · rw [if_neg h1]
    have h1i : ((e1' : Int) != 0) = true := by simp; omega
    simp only [alg0_eq, pa0_eq]
    refine Bd Tryz.func107 Tryz.ntmps107 fun σ N hp hpn hk hkn hfree => ?_
    have hcs := And.intro c1 (And.intro c2 True.intro)
    clear c1 c2 c3 c4
    refine Wk ?_
    exact WD
end
end Go.Proofs.YtemmlldpmgfblaaGreatDoor

/- Age and Find; the law DischargeAge. -/
namespace Go.Proofs.YtemmlldpmgfblaaGreatDoor
open Go.Ab
attribute [local irreducible] Go.Ab.tyAV Go.Ab.aw Go.Ab.aops Go.Ab.kReg Go.Ab.aThen Go.Ab.aBlk Go.Ab.acond Go.Ab.aguard Go.Ab.astep Go.Ab.AStepX Go.Ab.aRet

theorem minutes_spec (n : Int) (k : Nat) : ACall Tryz.prog 78 [.lit (.int .i64 n)] k [] (.lit (.bool (decide (0 ≤ n) && decide (n ≤ 67108864)))) [] := by
  by_cases h : 0 ≤ n
  · rw [decide_eq_true h]
    refine Bd Tryz.func78 Tryz.ntmps78 fun σ N hp hpn hk hkn hfree => ?_
    exact W0
  · rw [decide_eq_false h]
    refine Bd Tryz.func78 Tryz.ntmps78 fun σ N hp hpn hk hkn hfree => ?_
    exact W0

def ageBad (b m : Int) : Prop := m < 0 ∨ 67108864 < m ∨ b < -67108864 ∨ 67108864 < b ∨ m < b
instance (b m : Int) : Decidable (ageBad b m) := by unfold ageBad; infer_instance
def ageS (b m : Int) : Int := if ageBad b m then 0 else if (m - b) / 525600 < 150 then (m - b) / 525600 else 150

theorem age_B (n : List UInt8) (b m w x : Int) (h : (decide (0 ≤ m) && decide (m ≤ 67108864)) = true) (hw : IntKind.i64.wrap (-b) = w) (hx : (if b < w then w else b) = x) (h2 : (decide (0 ≤ x) && decide (x ≤ 67108864)) = false) (k : Nat) :
    ACall Tryz.prog 81 [persAV ⟨n, b⟩, .lit (.int .i64 m)] k [] (.lit (.int .i64 0)) [] := by
  have c1 := minutes_spec m
  rw [h] at c1
  have c2 := minutes_spec x
  rw [h2] at c2
  clear h h2
  refine Bd Tryz.func81 Tryz.ntmps81 fun σ N hp hpn hk hkn hfree => ?_
  have hcs := And.intro c1 (And.intro c2 True.intro)
  exact W0

theorem refAge_A (n : List UInt8) (b m : Int) (h1 : m < 0) (k : Nat) :
    ACall Tryz.prog 89 [persAV ⟨n, b⟩, .lit (.int .i64 m)] k [] (.lit (.int .i64 0)) [] := by
  refine Bd Tryz.func89 Tryz.ntmps89 fun σ N hp hpn hk hkn hfree => ?_
  exact W0

theorem refAge_B (n : List UInt8) (b m : Int) (h1 : ¬ m < 0) (h2 : 67108864 < m) (k : Nat) :
    ACall Tryz.prog 89 [persAV ⟨n, b⟩, .lit (.int .i64 m)] k [] (.lit (.int .i64 0)) [] := by
  refine Bd Tryz.func89 Tryz.ntmps89 fun σ N hp hpn hk hkn hfree => ?_
  exact W0

theorem refAge_C (n : List UInt8) (b m : Int) (h1 : ¬ m < 0) (h2 : ¬ 67108864 < m) (h3 : b < -67108864) (k : Nat) :
    ACall Tryz.prog 89 [persAV ⟨n, b⟩, .lit (.int .i64 m)] k [] (.lit (.int .i64 0)) [] := by
  refine Bd Tryz.func89 Tryz.ntmps89 fun σ N hp hpn hk hkn hfree => ?_
  exact W0

theorem refAge_D (n : List UInt8) (b m : Int) (h1 : ¬ m < 0) (h2 : ¬ 67108864 < m) (h3 : ¬ b < -67108864) (h4 : 67108864 < b) (k : Nat) :
    ACall Tryz.prog 89 [persAV ⟨n, b⟩, .lit (.int .i64 m)] k [] (.lit (.int .i64 0)) [] := by
  refine Bd Tryz.func89 Tryz.ntmps89 fun σ N hp hpn hk hkn hfree => ?_
  exact W0

theorem refAge_E (n : List UInt8) (b m : Int) (h1 : ¬ m < 0) (h2 : ¬ 67108864 < m) (h3 : ¬ b < -67108864) (h4 : ¬ 67108864 < b) (h5 : m < b) (k : Nat) :
    ACall Tryz.prog 89 [persAV ⟨n, b⟩, .lit (.int .i64 m)] k [] (.lit (.int .i64 0)) [] := by
  refine Bd Tryz.func89 Tryz.ntmps89 fun σ N hp hpn hk hkn hfree => ?_
  exact W0

theorem refAge_F (n : List UInt8) (b m r : Int) (h1 : ¬ m < 0) (h2 : ¬ 67108864 < m) (h3 : ¬ b < -67108864) (h4 : ¬ 67108864 < b) (h5 : ¬ m < b)
    (hr : (if (150 : Int) < (m - b).tdiv 525600 then (150 : Int) else (m - b).tdiv 525600) = r) (k : Nat) :
    ACall Tryz.prog 89 [persAV ⟨n, b⟩, .lit (.int .i64 m)] k [] (.lit (.int .i64 r)) [] := by
  have hwr : IntKind.i64.wrap (m - b) = m - b := wrap_i64 (by omega) (by omega)
  have hq : (m - b).tdiv 525600 = (m - b) / 525600 := Int.tdiv_eq_ediv_of_nonneg (by omega)
  rw [hq] at hr
  refine Bd Tryz.func89 Tryz.ntmps89 fun σ N hp hpn hk hkn hfree => ?_
  exact W0

theorem refAge_spec (n : List UInt8) (b m : Int) (k : Nat) :
    ACall Tryz.prog 89 [persAV ⟨n, b⟩, .lit (.int .i64 m)] k [] (.lit (.int .i64 (ageS b m))) [] := by
  unfold ageS
  by_cases h : ageBad b m
  · rw [if_pos h]
    by_cases h1 : m < 0
    · exact refAge_A n b m h1 k
    · by_cases h2 : 67108864 < m
      · exact refAge_B n b m h1 h2 k
      · by_cases h3 : b < -67108864
        · exact refAge_C n b m h1 h2 h3 k
        · by_cases h4 : 67108864 < b
          · exact refAge_D n b m h1 h2 h3 h4 k
          · unfold ageBad at h
            exact refAge_E n b m h1 h2 h3 h4 (by omega) k
  · rw [if_neg h]
    unfold ageBad at h
    refine refAge_F n b m _ (by omega) (by omega) (by omega) (by omega) (by omega) ?_ k
    rw [Int.tdiv_eq_ediv_of_nonneg (by omega)]
    split <;> split <;> omega

def findP (l : List Pe) (nm : List UInt8) : Pe × Bool := match l.find? (fun p => decide (p.name = nm)) with
  | some p => (p, true)
  | none => (⟨[], 0⟩, false)
theorem findP_at {l : List Pe} {nm : List UInt8} {u : Nat} {p : Pe} (h : u < l.length) (hx : l[u] = p) (hm : p.name = nm) (hno : ∀ y ∈ l.take u, ¬ y.name = nm) : findP l nm = (p, true) := by
  have : l.find? (fun p => decide (p.name = nm)) = some p := by
    rw [List.find?_eq_some_iff_getElem]
    refine ⟨by simp [hm], u, h, hx, fun j hj => ?_⟩
    have := hno l[j] (by rw [List.mem_iff_getElem]; exact ⟨j, by rw [List.length_take]; omega, by rw [List.getElem_take]⟩)
    simp [this]
  simp only [findP, this]
theorem findP_none {l : List Pe} {nm : List UInt8} (hno : ∀ y ∈ l, ¬ y.name = nm) : findP l nm = (⟨[], 0⟩, false) := by
  have : l.find? (fun p => decide (p.name = nm)) = none := by
    rw [List.find?_eq_none]; intro x hx; simp [hno x hx]
  simp only [findP, this]
theorem pno_succ {l : List Pe} {nm : List UInt8} {u : Nat} {p : Pe} (h : u < l.length) (hx : l[u] = p) (hm : ¬ p.name = nm) (hno : ∀ y ∈ l.take u, ¬ y.name = nm) : ∀ y ∈ l.take (u + 1), ¬ y.name = nm := by
  intro y hy
  rw [List.take_add_one, List.getElem?_eq_getElem h, hx] at hy
  simp only [Option.toList, List.mem_append, List.mem_singleton] at hy
  rcases hy with hy | rfl
  · exact hno y hy
  · exact hm
theorem refFind_spec (p : Int) (t : Tg) (l : List Pe) (nm : List UInt8) (hl : l.length ≤ 1000000) (k : Nat) :
    ACall Tryz.prog 88 [concAV ⟨p, t, l⟩, strAV nm] k [] (.tup [persAV (findP l nm).1, .lit (.bool (findP l nm).2)]) [] := by
  have hnmv : strAV nm = .lit (.string ⟨nm.toArray⟩) := rfl
  refine Bd Tryz.func88 Tryz.ntmps88 fun σ N hp hpn hk hkn hfree => ?_
  refine Wk ?_
  refine go_loop (aloop mixed (by kernel_rfl) (fun c => ∃ (u : Nat), c.s 1 = strAV nm ∧ c.s 2 = .ptr N [] 0 ∧ c.σ N = .box 42 (concAV ⟨p, t, l⟩) ∧ c.s 4 = .ptr (N + 1) [] 0 ∧ c.σ (N + 1) = .box 149 (persAV ⟨[], 0⟩) ∧ c.s 6 = .lit (.int .i64 u) ∧ u ≤ l.length ∧ N + 1 < c.n ∧ (∀ id, id < N → c.σ id = σ id) ∧ ∀ y ∈ l.take u, ¬ y.name = nm)
    (fun c => match c.s 6 with | .lit (.int _ m) => l.length - m.toNat | _ => 0) ⟨0, by simp (disch := omega) [go_sem, *, -List.reduceReplicate], by simp (disch := omega) [go_sem, *, -List.reduceReplicate], by simp (disch := omega) [go_sem, *, -List.reduceReplicate], by simp (disch := omega) [go_sem, *, -List.reduceReplicate], by simp (disch := omega) [go_sem, *, -List.reduceReplicate]; rfl, by simp (disch := omega) [go_sem, *, -List.reduceReplicate], by omega, by simp only; omega, (fun id hid => by simp (disch := omega) only [upd_ne, wr_cons, wr_nil]; try exact hlow id hid), by simp⟩ ?_)
  rintro ⟨s, σ', n'⟩ ⟨u, h1, h2, hN, h4, hN1, h6, hu, hn', hlow, hno⟩
  simp only at h1 h2 hN h4 hN1 h6 hn' hlow
  by_cases hul : u = l.length
  · rw [findP_none (by rw [hul, List.take_length] at hno; exact hno)]
    clear hno
    exact W0
  · have hu2 : u < l.length := by omega
    obtain ⟨x, hx⟩ : ∃ x, l[u] = x := ⟨_, rfl⟩
    by_cases hm : x.name = nm
    · rw [findP_at hu2 hx hm hno]
      clear hno
      obtain ⟨xn, xb⟩ := x
      simp only at hm
      subst hm
      exact W0
    · have hno2 := pno_succ hu2 hx hm hno
      clear hno
      obtain ⟨xn, xb⟩ := x
      simp only at hm
      refine Wk ?_
      refine ⟨⟨u + 1, by simp (disch := omega) [go_sem, *, -List.reduceReplicate], by simp (disch := omega) [go_sem, *, -List.reduceReplicate], by simp (disch := omega) [go_sem, *, -List.reduceReplicate], by simp (disch := omega) [go_sem, *, -List.reduceReplicate], by simp (disch := omega) [go_sem, *, -List.reduceReplicate], by simp (disch := omega) [go_sem, *, -List.reduceReplicate], by omega, by simp only; omega, (fun id hid => by simp (disch := omega) only [upd_ne, wr_cons, wr_nil]; try exact hlow id hid), hno2⟩, ?_⟩
      simp (disch := omega) [go_sem, *, -List.reduceReplicate]
      omega

end Go.Proofs.YtemmlldpmgfblaaGreatDoor

/- Discharges of the reference: Grant. -/
namespace Go.Proofs.YtemmlldpmgfblaaGreatDoor
open Go.Ab
attribute [local irreducible] Go.Ab.tyAV Go.Ab.aw Go.Ab.aops Go.Ab.kReg Go.Ab.aThen Go.Ab.aBlk Go.Ab.acond Go.Ab.aguard Go.Ab.astep Go.Ab.AStepX Go.Ab.aRet
attribute [local irreducible] shaG

section
variable [W : W32]
def holdP (h : List UInt8) : Pr := ⟨6, 0, 0, 0, h, 0⟩
def grantS (a : Alg) (c : Co) (t : List UInt8) (holder : List UInt8) (minute : Int) : Alg × Di × Nat :=
  if nameB holder = false then (alg0, di0, 7) else if minute < 0 ∨ 67108864 < minute then (alg0, di0, 1) else
  if (openT a c t).2.2 ≠ 0 then (alg0, di0, (openT a c t).2.2) else if (findP c.ps holder).2 = false then (alg0, di0, 12) else
  if ageS (findP c.ps holder).1.born minute < (openT a c t).2.1.least ∨ (openT a c t).2.1.most < ageS (findP c.ps holder).1.born minute then (alg0, di0, 25) else
  if (macS a (openT a c t).1 (grantM t)).2.2 = 0 then restrS (macS a (openT a c t).1 (grantM t)).1 ⟨t, [], (macS a (openT a c t).1 (grantM t)).2.1⟩ (holdP holder) else (alg0, di0, (macS a (openT a c t).1 (grantM t)).2.2)
theorem grantS_in {a : Alg} {m : Nat} (h : AlgIn a m) (c : Co) (t holder : List UInt8) (minute : Int) : AlgIn (grantS a c t holder minute).1 (m + 2) := by
  unfold grantS
  repeat' split
  all_goals first | exact alg0_in _ | exact restrS_in (macS_in h _ _) _ _
set_option maxHeartbeats 1000000 in
theorem refGrant_spec (a : Alg) (m : Nat) (ha : AlgIn a m) (hm : m ≤ 800000) (c : Co) (hc : c.ps.length ≤ 1000000) (t : List UInt8) (ht : t.length ≤ 100000) (holder : List UInt8) (hh : holder.length ≤ 100000) (minute : Int) (k : Nat) :
    ACall Tryz.prog 32 [algAV a, concAV c, .slice none (t.map byteAV), strAV holder, .lit (.int .i64 minute)] k [] (mdAV (grantS a c t holder minute)) [] := by
  have hnv : strAV holder = .lit (.string ⟨holder.toArray⟩) := rfl
  have c1 := Name_spec holder (by omega)
  unfold grantS
  cases hn : nameB holder with
  | false =>
    rw [if_pos rfl]
    rw [hn] at c1
    unfold mdAV
    simp only [alg0_eq, di0_eq]
    clear ha
    refine Bd Tryz.func32 Tryz.ntmps32 fun σ N hp hpn hk hkn hfree => ?_
    have hcs := And.intro c1 True.intro
    clear c1
    refine Wk ?_
    exact WD
  | true =>
    rw [if_neg (by simp)]
    rw [hn] at c1
    by_cases h1 : minute < 0
    · rw [if_pos (.inl h1)]
      unfold mdAV
      simp only [alg0_eq, di0_eq]
      clear ha
      refine Bd Tryz.func32 Tryz.ntmps32 fun σ N hp hpn hk hkn hfree => ?_
      have hcs := And.intro c1 True.intro
      clear c1
      refine Wk ?_
      exact WD
    by_cases h2 : 67108864 < minute
    · rw [if_pos (.inr h2)]
      unfold mdAV
      simp only [alg0_eq, di0_eq]
      clear ha
      refine Bd Tryz.func32 Tryz.ntmps32 fun σ N hp hpn hk hkn hfree => ?_
      have hcs := And.intro c1 True.intro
      clear c1
      refine Wk ?_
      exact WD
    rw [if_neg (by omega)]
    have c2 := refOpenT_spec a m ha (by omega) c t ht
    generalize hX : openT a c t = X at *
    obtain ⟨kt, te, e1'⟩ := X
    unfold moAV at c2
    simp only at c2 ⊢
    by_cases he : e1' = 0
    · subst he
      rw [if_neg (by simp)]
      obtain ⟨pa, ck, ps⟩ := c
      simp only at hc c2 ⊢
      have c3 := refFind_spec pa ck ps holder hc
      generalize findP ps holder = Y at *
      obtain ⟨pe, ok⟩ := Y
      simp only at c3 ⊢
      cases ok with
      | false =>
        rw [if_pos rfl]
        unfold mdAV
        simp only [alg0_eq, di0_eq]
        clear ha hX
        refine Bd Tryz.func32 Tryz.ntmps32 fun σ N hp hpn hk hkn hfree => ?_
        have hcs := And.intro c1 (And.intro c2 (And.intro c3 True.intro))
        clear c1 c2 c3
        refine Wk ?_
        exact WD
      | true =>
        rw [if_neg (by simp)]
        obtain ⟨pn, pb⟩ := pe
        have c4 := refAge_spec pn pb minute
        simp only
        generalize ageS pb minute = A at *
        obtain ⟨x, y⟩ := te
        simp only [teAV] at c2
        simp only
        by_cases h3 : A < x
        · rw [if_pos (.inl h3)]
          unfold mdAV
          simp only [alg0_eq, di0_eq]
          clear ha hX
          refine Bd Tryz.func32 Tryz.ntmps32 fun σ N hp hpn hk hkn hfree => ?_
          have hcs := And.intro c1 (And.intro c2 (And.intro c3 (And.intro c4 True.intro)))
          clear c1 c2 c3 c4
          refine Wk ?_
          exact WD
        by_cases h4 : y < A
        · rw [if_pos (.inr h4)]
          unfold mdAV
          simp only [alg0_eq, di0_eq]
          clear ha hX
          refine Bd Tryz.func32 Tryz.ntmps32 fun σ N hp hpn hk hkn hfree => ?_
          have hcs := And.intro c1 (And.intro c2 (And.intro c3 (And.intro c4 True.intro)))
          clear c1 c2 c3 c4
          refine Wk ?_
          exact WD
        rw [if_neg (by rintro (h | h); · exact h3 h
                       · exact h4 h)]
        have c5 := refGrantM_spec t (by omega)
        have c6 := Mac_spec a kt (grantM t) (by have := ha.ml; omega) ha.mm
        have hin := macS_in ha kt (grantM t)
        generalize macS a kt (grantM t) = Z at *
        obtain ⟨a1, t1, e2'⟩ := Z
        generalize grantM t = M at *
        unfold mkAV at c6
        simp only at c6 hin ⊢
        by_cases h5 : e2' = 0
        · subst h5
          rw [if_pos rfl]
          have c7 := refRestr_spec a1 (m + 1) hin (by omega) ⟨t, [], t1⟩ (by simp) (holdP holder) ⟨by simp [holdP], by simp [holdP], by simp only [holdP]; have := nameB_len hn; omega⟩
          generalize restrS a1 ⟨t, [], t1⟩ (holdP holder) = R at *
          obtain ⟨a2, d2, e3'⟩ := R
          unfold mdAV at *
          simp only [diAV, holdP, prAV, List.map_nil] at c7
          simp only
          clear ha hX hin
          have hd2 : diAV d2 = .agg [.slice none (d2.ticket.map byteAV), .slice none (d2.conds.map prAV), tagAV d2.tag] := rfl
          refine Bd Tryz.func32 Tryz.ntmps32 fun σ N hp hpn hk hkn hfree => ?_
          have hcs := And.intro c1 (And.intro c2 (And.intro c3 (And.intro c4 (And.intro c5 (And.intro c6 (And.intro c7 True.intro))))))
          clear c1 c2 c3 c4 c5 c6 c7
          refine Wk ?_
          exact WD
        · rw [if_neg h5]
          have h5i : ((e2' : Int) != 0) = true := by simp; omega
          unfold mdAV
          simp only [alg0_eq, di0_eq]
          clear ha hX hin
          refine Bd Tryz.func32 Tryz.ntmps32 fun σ N hp hpn hk hkn hfree => ?_
          have hcs := And.intro c1 (And.intro c2 (And.intro c3 (And.intro c4 (And.intro c5 (And.intro c6 True.intro)))))
          clear c1 c2 c3 c4 c5 c6
          refine Wk ?_
          exact WD
    · rw [if_pos he]
      have h1i : ((e1' : Int) != 0) = true := by simp; omega
      unfold mdAV
      simp only [alg0_eq, di0_eq]
      clear ha hX
      refine Bd Tryz.func32 Tryz.ntmps32 fun σ N hp hpn hk hkn hfree => ?_
      have hcs := And.intro c1 (And.intro c2 True.intro)
      clear c1 c2
      refine Wk ?_
      exact WD
end
end Go.Proofs.YtemmlldpmgfblaaGreatDoor

/- Passes of the reference: Narrow. The deck's Wide. -/
namespace Go.Proofs.YtemmlldpmgfblaaGreatDoor
open Go.Ab
attribute [local irreducible] Go.Ab.tyAV Go.Ab.aw Go.Ab.aops Go.Ab.kReg Go.Ab.aThen Go.Ab.aBlk Go.Ab.acond Go.Ab.aguard Go.Ab.astep Go.Ab.AStepX Go.Ab.aRet
attribute [local irreducible] shaG

def firC (p : Pr) : Ca := ⟨false, p, 0, [], []⟩
section
variable [W : W32]
def narS (a : Alg) (p : Pa) : List Pr → Alg × Pa × Nat
  | [] => (a, p, 0)
  | x :: r => if (attS a p (firC x)).2.2 = 0 then narS (attS a p (firC x)).1 (attS a p (firC x)).2.1 r else (alg0, pa0, (attS a p (firC x)).2.2)
theorem attS_len {a : Alg} {p : Pa} {c : Ca} : (attS a p c).2.1.cavs.length ≤ p.cavs.length + 1 := by
  unfold attS
  split
  · simp [pa0]
  · split
    · simp [pa0]
    · split
      · simp
      · simp [pa0]
theorem attS_bad {a : Alg} {p : Pa} {c : Ca} (h : (attS a p c).2.2 ≠ 0) : attS a p c = (alg0, pa0, (attS a p c).2.2) := by
  unfold attS at h ⊢
  split
  · rfl
  · split
    · rfl
    · rename_i h1 h2
      rw [if_neg h1, if_neg h2] at h
      split
      · rename_i h3; rw [if_pos h3] at h; exact absurd rfl h
      · rfl
set_option maxHeartbeats 2000000 in
theorem Narrow_spec (a : Alg) (m : Nat) (ha : AlgIn a m) (p : Pa) (l : List Pr) (hm : m + 2 * l.length ≤ 800000) (hpl : p.cavs.length + l.length ≤ 10000) (hpk : ∀ x ∈ l, PrOk x) (k : Nat) :
    ACall Tryz.prog 106 [algAV a, paAV p, .slice none (l.map prAV)] k [] (mpAV (narS a p l)) [] := by
  obtain ⟨R, hR⟩ : ∃ R, narS a p l = R := ⟨_, rfl⟩
  rw [hR]
  obtain ⟨R1, R2, R3⟩ := R
  have hdr : l.drop 0 = l := rfl
  unfold mpAV
  simp only
  have g0 : (0 : Nat) = 0 → narS a p (l.drop 0) = (R1, R2, R3) := fun _ => hR
  have g1 : (0 : Nat) ≠ 0 → (R1, R2, R3) = ((alg0, pa0, (0 : Nat)) : Alg × Pa × Nat) ∧ a = alg0 ∧ p = pa0 := fun h => absurd rfl h
  refine Bd Tryz.func106 Tryz.ntmps106 fun σ N hp hpn hk hkn hfree => ?_
  refine Wk ?_
  refine go_loopF mixed (by kernel_rfl) [9, 10, 11, 12, 13, 14, 15, 16, 17, 18, 19, 20, 21, 22, 23, 24, 25, 26, 27, 28, 29, 30, 31, 32] [N, N+1, N+2, N+3] (fun m_ s_ σ_ n_ => ∃ (u : Nat) (A : Alg) (Q : Pa) (e : Nat), m_ = l.length - u ∧ s_ 10 = .lit (.int .i64 u) ∧ s_ 9 = .lit (.int .i64 (e : Nat)) ∧ σ_ (N) = .box 36 (algAV A) ∧ σ_ (N+1) = .box 44 (paAV Q) ∧ σ_ (N+2) = .box 36 (.agg [.lit (.bool false), tagAV zeroTag, .lit (.int .i64 0), .nils, .nils]) ∧ σ_ (N+3) = .box 44 (.agg [.lit (.int .i64 0), .lit (.int .i64 0), .nils, tagAV zeroTag]) ∧ (u ≤ l.length) ∧ (AlgIn A (m + 2 * u)) ∧ (Q.cavs.length ≤ p.cavs.length + u) ∧ (e = 0 → narS A Q (l.drop u) = (R1, R2, R3)) ∧ (e ≠ 0 → (R1, R2, R3) = (alg0, pa0, e) ∧ A = alg0 ∧ Q = pa0)) ⟨_, 0, a, p, 0, rfl, WF, WF, WF, WF, WF, WF, WC, WC, WC, WC, WC⟩ ?_
  intro m_1 s_1 σ_1 n_1 hs_1 hf_1 hn_1 hI_1
  obtain ⟨u, A, Q, e, hm_1, h1_10, h1_9, e1_0, e1_1, e1_2, e1_3, hu, hA, hQ, hg, hg2⟩ := hI_1
  have h1_2 := KS hs_1 2
  have h1_3 := KS hs_1 3
  have h1_4 := KS hs_1 4
  have h1_6 := KS hs_1 6
  have h1_7 := KS hs_1 7
  have h1_8 := KS hs_1 8
  have hlow := KL (N := N) (σ := σ) hf_1
  clear hR hdr g0 g1
  by_cases he : e = 0
  · subst he
    have hg := hg rfl
    clear hg2
    by_cases hul : u = l.length
    · subst hul
      rw [List.drop_length] at hg
      simp only [narS, Prod.mk.injEq] at hg
      obtain ⟨rfl, rfl, rfl⟩ := hg
      clear hpk hA
      refine Wk ?_
      exact WD
    · have hu1 : u < l.length := by omega
      rw [List.drop_eq_getElem_cons hu1, narS] at hg
      have hz1 := hpk _ (List.getElem_mem hu1)
      obtain ⟨z, hz⟩ : ∃ z, l[u] = z := ⟨_, rfl⟩
      rw [hz] at hg hz1
      have c1 := refAtt_spec A (m + 2 * u) hA (by omega) Q (by omega) (firC z) hz1
      have hin := attS_in hA Q (firC z)
      have hln := attS_len (a := A) (p := Q) (c := firC z)
      have hbd := attS_bad (a := A) (p := Q) (c := firC z)
      generalize attS A Q (firC z) = X at *
      obtain ⟨a1, p1, e1'⟩ := X
      simp only at hg hin hln hbd
      unfold mpAV firC caAV at c1
      simp only [List.map_nil] at c1
      have hin2 : AlgIn a1 (m + 2 * (u + 1)) := hin.more (by omega)
      have hq1 : e1' = 0 → narS a1 p1 (l.drop (u + 1)) = (R1, R2, R3) := fun h => by rw [if_pos h] at hg; exact hg
      have hq2 : e1' ≠ 0 → (R1, R2, R3) = (alg0, pa0, e1') ∧ a1 = alg0 ∧ p1 = pa0 := fun h => by
        rw [if_neg h] at hg
        have := hbd h
        simp only [Prod.mk.injEq] at this
        exact ⟨hg.symm, this.1, this.2.1⟩
      have hln2 : p1.cavs.length ≤ p.cavs.length + (u + 1) := by omega
      have hcs := And.intro c1 True.intro
      clear c1 hpk hg hin hbd hA hln
      refine Wk ?_
      exact ⟨WS, WG, WN, _, (show l.length - (u + 1) < m_1 by omega), u + 1, a1, p1, e1', rfl, WF, WF, WF, WF, WF, WF, WC, WC, WC, WC, WC⟩
  · obtain ⟨h1, rfl, rfl⟩ := hg2 he
    simp only [Prod.mk.injEq] at h1
    obtain ⟨rfl, rfl, rfl⟩ := h1
    have hei : ((R3 : Int) == 0) = false := by rw [beq_eq_false_iff_ne]; omega
    have hei2 : ((R3 : Int) != 0) = true := by simp; omega
    clear hg hg2 hA hpk
    simp only [alg0_eq, pa0_eq] at *
    by_cases hul : u < l.length
    · have huli : (u : Int) < (l.length : Int) := by omega
      refine Wk ?_
      exact WD
    · have huli : ¬ (u : Int) < (l.length : Int) := by omega
      refine Wk ?_
      exact WD
end
end Go.Proofs.YtemmlldpmgfblaaGreatDoor

/- What is made without an error: plain laws. -/
namespace Go.Proofs.YtemmlldpmgfblaaGreatDoor
open Go.Ab
attribute [local irreducible] Go.Ab.tyAV Go.Ab.aw Go.Ab.aops Go.Ab.kReg Go.Ab.aThen Go.Ab.aBlk Go.Ab.acond Go.Ab.aguard Go.Ab.astep Go.Ab.AStepX Go.Ab.aRet
attribute [local irreducible] shaG

section
variable [W : W32]
theorem nodeS_ok {a : Alg} {m : Nat} (h : AlgIn a m) (hm : m ≤ 60000) (key : Tg) {msg : List UInt8} (hl : msg.length ≤ 4096) : (macS a key msg).2.2 = 0 ∧ (macS (macS a key msg).1 (macS a key msg).2.1 nodeB).2.2 = 0 ∧ nodeS a key msg = ((macS (macS a key msg).1 (macS a key msg).2.1 nodeB).1, (macS a key msg).2.1, 0) := by
  have h1 : (macS a key msg).2.2 = 0 := macS_ok key hl (by have := h.ml; omega)
  have h2 : (macS (macS a key msg).1 (macS a key msg).2.1 nodeB).2.2 = 0 := macS_ok _ (by decide) (by have := (macS_in h key msg).ml; omega)
  exact ⟨h1, h2, nodeS_3 h1 h2⟩
theorem nodeS_keeps {a : Alg} {m : Nat} (h : AlgIn a m) (hm : m ≤ 60000) (key : Tg) {msg : List UInt8} (hl : msg.length ≤ 4096) : (nodeS a key msg).2.2 = 0 ∧ (nodeS a key msg).1.free = a.free ∧ (nodeS a key msg).1.fresh = a.fresh ∧ (nodeS a key msg).1.boxes = a.boxes := by
  obtain ⟨h1, h2, h3⟩ := nodeS_ok h hm key hl
  obtain ⟨a1, _, a3, a4⟩ := macS_free h1
  obtain ⟨b1, _, b3, b4⟩ := macS_free h2
  rw [h3]
  exact ⟨rfl, b1.trans a1, b3.trans a3, b4.trans a4⟩
theorem AlgOk.node {a : Alg} {m : Nat} (ok : AlgOk a) (h : AlgIn a m) (hm : m ≤ 60000) (key : Tg) {msg : List UInt8} (hl : msg.length ≤ 4096) : AlgOk (nodeS a key msg).1 := by
  obtain ⟨h1, h2, h3⟩ := nodeS_ok h hm key hl
  rw [h3]
  exact (ok.mac key msg).mac _ _
theorem attS_ok {a : Alg} {m : Nat} (h : AlgIn a m) (hm : m ≤ 60000) {p : Pa} {c : Ca} (hc : cavB c = true) (hl : p.cavs.length < 64) (ht : c.third = true → thirdsS p.cavs < 8) :
    attS a p c = ((nodeS a p.tag (cavM c)).1, ⟨p.epoch, p.serial, p.cavs ++ [c], (nodeS a p.tag (cavM c)).2.1⟩, 0) := by
  have h1 := (nodeS_keeps h hm p.tag (msg := cavM c) (by have := cavM_len c; omega)).1
  unfold attS
  rw [if_neg (by rw [hc]; simp), if_neg (by rintro (h | ⟨h, h'⟩); · omega
                                            · have := ht h; omega), if_pos h1]
theorem restrS_ok {a : Alg} {m : Nat} (h : AlgIn a m) (hm : m ≤ 60000) {d : Di} {p : Pr} (hp : predB p = true) (hk : p.kind ≠ 7) (hl : d.conds.length < 8) :
    (macS a d.tag (condM p)).2.2 = 0 ∧ restrS a d p = ((macS a d.tag (condM p)).1, ⟨d.ticket, d.conds ++ [p], (macS a d.tag (condM p)).2.1⟩, 0) := by
  have h1 : (macS a d.tag (condM p)).2.2 = 0 := macS_ok _ (by have := condM_len p; omega) (by have := h.ml; omega)
  refine ⟨h1, ?_⟩
  unfold restrS
  rw [if_neg (by rw [hp]; simp), if_neg hk, if_neg (by omega), if_pos h1]
theorem blankS_ok {a : Alg} {m : Nat} (h : AlgIn a m) (hm : m ≤ 60000) {c : Co} {t : Te} (ht : teB t = true) (h0 : 0 ≤ c.party) (h7 : c.party ≤ 7) :
    keyS a = ({ a with fresh := a.fresh + 1 }, if a.free then symT 107 (a.fresh + 1) else derT a.seed (a.fresh + 1), 0) ∧ (sealS (keyS a).1 c.key (keyS a).1.fresh (plainT (keyS a).2.1 t)).2.2 = 0 ∧
    blankS a c t = ((sealS (keyS a).1 c.key (keyS a).1.fresh (plainT (keyS a).2.1 t)).1, ⟨c.party, (keyS a).2.1, (sealS (keyS a).1 c.key (keyS a).1.fresh (plainT (keyS a).2.1 t)).2.1⟩, 0) := by
  have hk := keyS_ok (a := a) (by have := h.f1; omega)
  have h2 : (sealS (keyS a).1 c.key (keyS a).1.fresh (plainT (keyS a).2.1 t)).2.2 = 0 := by
    refine sealS_ok _ ?_ ?_ (by have := plainT_len (keyS a).2.1 t ht; omega) ?_
    · rw [hk]; have := h.f0; simp only; omega
    · rw [hk]; have := h.f1; simp only; omega
    · rw [hk]; have := h.bl; simp only; omega
  refine ⟨hk, h2, ?_⟩
  unfold blankS
  rw [if_neg (by rintro (h | h | h); · rw [ht] at h; cases h
                 · omega
                 · omega), if_pos (by rw [hk]), if_pos h2]
theorem sealS_box {a : Alg} (ok : AlgOk a) {key : Tg} {nonce : Int} {plain : List UInt8} (h : (sealS a key nonce plain).2.2 = 0) : (sealS a key nonce plain).2.1.length = plain.length + 40 := by
  unfold sealS at h ⊢
  split at h
  · cases h
  · rename_i h1
    split at h
    · cases h
    · rename_i h2
      rw [if_neg h1, if_neg h2]
      split at h
      · rename_i b hb
        obtain ⟨e, he, k1, k2, k3, k4⟩ := boxL_mem hb
        simp only
        rw [← k4, ← k3]
        cases hfr : a.free with
        | true =>
          obtain ⟨i, hi, rfl⟩ := List.getElem_of_mem he
          rw [ok.bf hfr i hi, List.length_append, List.length_replicate, (symT _ _).2]; omega
        | false => rw [ok.bn hfr e he, sealB_len]
      · split at h
        · cases h
        · rename_i h3
          rw [if_neg h3]
          simp only
          unfold sealN
          split
          · rw [List.length_append, List.length_replicate, (symT _ _).2]; omega
          · rw [sealB_len]
theorem addS_ok {a : Alg} {m : Nat} (ok : AlgOk a) (h : AlgIn a m) (hm : m ≤ 50000) {p : Pa} {b : Bl} (hl : p.cavs.length < 64) (ht : thirdsS p.cavs < 8) (b0 : 0 ≤ b.party) (b7 : b.party ≤ 7) (t1 : 1 ≤ b.ticket.length) (t2 : b.ticket.length ≤ 1024) :
    (macS a p.tag (sealM b.ticket)).2.2 = 0 ∧ (sealS (macS a p.tag (sealM b.ticket)).1 (macS a p.tag (sealM b.ticket)).2.1 0 b.key.1).2.2 = 0 ∧
    cavB ⟨true, zeroPr, b.party, b.ticket, (sealS (macS a p.tag (sealM b.ticket)).1 (macS a p.tag (sealM b.ticket)).2.1 0 b.key.1).2.1⟩ = true ∧
    addS a p b = attS (sealS (macS a p.tag (sealM b.ticket)).1 (macS a p.tag (sealM b.ticket)).2.1 0 b.key.1).1 p ⟨true, zeroPr, b.party, b.ticket, (sealS (macS a p.tag (sealM b.ticket)).1 (macS a p.tag (sealM b.ticket)).2.1 0 b.key.1).2.1⟩ := by
  have h1 : (macS a p.tag (sealM b.ticket)).2.2 = 0 := macS_ok _ (by simp [sealM]; omega) (by have := h.ml; omega)
  have hin := macS_in h p.tag (sealM b.ticket)
  have h2 : (sealS (macS a p.tag (sealM b.ticket)).1 (macS a p.tag (sealM b.ticket)).2.1 0 b.key.1).2.2 = 0 := sealS_ok _ (by omega) (by omega) (by rw [b.key.2]; decide) (by have := hin.bl; omega)
  refine ⟨h1, h2, ?_, by unfold addS; rw [if_pos h1, if_pos h2]⟩
  have hb := sealS_box (ok.mac _ _) h2
  obtain ⟨n, hn⟩ := Int.eq_ofNat_of_zero_le b0
  rw [hn]
  refine (CV.third n (by omega) _ _ ⟨t1, t2⟩ ?_).ok
  rw [b.key.2] at hb
  omega
/-- A person's age is within the terms. -/
theorem age_ok {b mi : Int} (h0 : 0 ≤ mi) (h1 : mi ≤ 10000) (h2 : -60000000 ≤ b) (h3 : b ≤ 0) : 0 ≤ ageS b mi ∧ ageS b mi ≤ 150 := by
  unfold ageS
  split
  · omega
  · split <;> omega
end
end Go.Proofs.YtemmlldpmgfblaaGreatDoor

/- Scenes: what is made, step by step. -/
namespace Go.Proofs.YtemmlldpmgfblaaGreatDoor
open Go.Ab
attribute [local irreducible] Go.Ab.tyAV Go.Ab.aw Go.Ab.aops Go.Ab.kReg Go.Ab.aThen Go.Ab.aBlk Go.Ab.acond Go.Ab.aguard Go.Ab.astep Go.Ab.AStepX Go.Ab.aRet
attribute [local irreducible] shaG

/-- A predicate that the deck draws. -/
def PRD (l : List Int) (j : Nat) (r : Bool) (p : Pr) (j1 : Nat) : Prop := predB p = true ∧ PrOk p ∧ (r = false → p.kind ≠ 7) ∧ Dk l j1 ∧ ∀ d k, ACall Tryz.prog 50 [.ptr d [] 0, .lit (.bool r)] k [(d, deckBox l j)] (prAV p) [(d, deckBox l j1)]
theorem PRD_ex {l : List Int} {j : Nat} (h : Dk l j) (r : Bool) : ∃ p j1, PRD l j r p j1 := by
  obtain ⟨p, j1, h1, h2, h3, h4, h5⟩ := Predicate_ex l j h r
  exact ⟨p, j1, h1, h2, h3, h4, h5⟩
structure Ss where
  A : Alg
  p : Pa
  gs : List Di
def ann : List UInt8 := [97, 110, 110]
section
variable [W : W32]
def rRun (l : List Int) : Nat → Nat → Alg → Di → (Alg × Di × Nat) → Prop
  | 0, j, A, g, R => R = (A, g, j)
  | f + 1, j, A, g, R => ∃ p j1, PRD l j false p j1 ∧ rRun l f j1 (restrS A g p).1 (restrS A g p).2.1 R
def BL (S : Ss) (con : Co) : Alg × Bl × Nat := blankS S.A con ⟨0, 150⟩
def AD (S : Ss) (con : Co) : Alg × Pa × Nat := addS (BL S con).1 S.p (BL S con).2.1
def GR (S : Ss) (con : Co) (mi : Int) : Alg × Di × Nat := grantS (AD S con).1 con (BL S con).2.1.ticket ann mi
def sRun (l : List Int) (con : Co) (mi : Int) : Nat → Nat → Ss → (Ss × Nat) → Prop
  | 0, j, S, R => R = (S, j)
  | f + 1, j, S, R => ((nextD l j 4).1 ≠ 0 → ∃ p j1, PRD l (nextD l j 4).2 true p j1 ∧ sRun l con mi f j1 ⟨(narS S.A S.p [p]).1, (narS S.A S.p [p]).2.1, S.gs⟩ R) ∧
    ((nextD l j 4).1 = 0 → ∃ R2, rRun l (nextD l (nextD l j 4).2 3).1 (nextD l (nextD l j 4).2 3).2 (GR S con mi).1 (GR S con mi).2.1 R2 ∧ sRun l con mi f R2.2.2 ⟨R2.1, (AD S con).2.1, S.gs ++ [R2.2.1]⟩ R)
/-- A discharge as it is granted. -/
structure DiV (g : Di) : Prop where
  t1 : 1 ≤ g.ticket.length
  t2 : g.ticket.length ≤ 200
  cl : g.conds.length ≤ 3
  cv : ∀ p ∈ g.conds, predB p = true ∧ PrOk p ∧ p.kind ≠ 7
structure Good (con : Co) (se : Int) (S : Ss) (n m : Nat) : Prop where
  ain : AlgIn S.A m
  ok : AlgOk S.A
  ep : S.p.epoch = 2
  es : S.p.serial = se
  cl : S.p.cavs.length ≤ n
  cv : ∀ c ∈ S.p.cavs, cavB c = true ∧ PrOk c.first ∧ c.ticket.length ≤ 200 ∧ c.box.length ≤ 200
  th : thirdsS S.p.cavs ≤ n
  gl : S.gs.length ≤ n
  gv : ∀ g ∈ S.gs, DiV g
  nf : ∀ e ∈ S.A.boxes, e.nonce ≤ S.A.fresh
  gb : ∀ g ∈ S.gs, ∃ e ∈ S.A.boxes, e.box = g.ticket ∧ 1 ≤ e.nonce
  gd : ∀ i j (hi : i < S.gs.length) (hj : j < S.gs.length), (S.gs[i]).ticket = (S.gs[j]).ticket → i = j
omit W in
theorem thirds_app (l : List Ca) (c : Ca) : thirdsS (l ++ [c]) ≤ thirdsS l + 1 := by
  unfold thirdsS
  have h1 := firsts_len l
  have h2 : (firstsS (l ++ [c])).length ≥ (firstsS l).length := by
    unfold firstsS; rw [List.filter_append, List.map_append, List.length_append]; omega
  rw [List.length_append, List.length_singleton]; omega
/-- A caveat of its own is added. -/
theorem Good.nar {con : Co} {se : Int} {S : Ss} {n m : Nat} (h : Good con se S n m) (hm : m ≤ 1000) (hn : n ≤ 6) {p : Pr} (hp : predB p = true) (hp0 : PrOk p) :
    Good con se ⟨(narS S.A S.p [p]).1, (narS S.A S.p [p]).2.1, S.gs⟩ (n + 1) (m + 2) := by
  have hcv : cavB (firC p) = true := (CV.first p hp).ok
  have ha := attS_ok h.ain (by omega) (p := S.p) (c := firC p) hcv (by have := h.cl; omega) (fun hh => by cases hh)
  have hk := nodeS_keeps h.ain (by omega) S.p.tag (msg := cavM (firC p)) (by have := cavM_len (firC p); omega)
  have hin := nodeS_in h.ain S.p.tag (cavM (firC p))
  have hok := h.ok.node h.ain (by omega) S.p.tag (msg := cavM (firC p)) (by have := cavM_len (firC p); omega)
  have hn' : narS S.A S.p [p] = ((nodeS S.A S.p.tag (cavM (firC p))).1, ⟨S.p.epoch, S.p.serial, S.p.cavs ++ [firC p], (nodeS S.A S.p.tag (cavM (firC p))).2.1⟩, 0) := by
    simp only [narS]
    rw [ha]
    rfl
  rw [hn']
  obtain ⟨k1, k2, k3, k4⟩ := hk
  refine ⟨hin, hok, h.ep, h.es, by have := h.cl; simp; omega, fun c hc => ?_, by have := thirds_app S.p.cavs (firC p); have := h.th; simp only; omega, by have := h.gl; simp only; omega, h.gv, fun e he => ?_, fun g hg => ?_, h.gd⟩
  · rcases List.mem_append.1 hc with hc | hc
    · exact h.cv c hc
    · rw [List.mem_singleton.1 hc]; exact ⟨hcv, hp0, by simp [firC], by simp [firC]⟩
  · simp only at he ⊢
    rw [k4] at he; rw [k3]; exact h.nf e he
  · simp only
    rw [k4]; exact h.gb g hg
omit W in
theorem readT_plain {k : Tg} {t : Te} (ht : teB t = true) : readT (plainT k t) = (k, t, 0) := by
  obtain ⟨h1, h2, h3⟩ := teB_iff.1 ht
  obtain ⟨x, y⟩ := t
  simp only at h1 h2 h3
  obtain ⟨x, rfl⟩ := Int.eq_ofNat_of_zero_le h1
  obtain ⟨y, rfl⟩ := Int.eq_ofNat_of_zero_le (show 0 ≤ y by omega)
  have hp : plainT k ⟨(x : Nat), (y : Nat)⟩ = k.1 ++ (leb x ++ leb y) := rfl
  rw [hp]
  have hkl := k.2
  have hlen : (k.1 ++ (leb x ++ leb y)).length = 32 + ((leb x).length + (leb y).length) := by simp [hkl]
  have hu : 0 + 32 ≤ (k.1 ++ (leb x ++ leb y)).length := by omega
  have ht1 : tagR (k.1 ++ (leb x ++ leb y)) 0 = (k, 32, 0) := by
    rw [tagR_ok hu]
    refine Prod.ext (Subtype.ext ?_) rfl
    simp only [List.drop_zero]
    exact List.take_left' hkl
  have hd : (k.1 ++ (leb x ++ leb y)).drop 32 = leb x ++ leb y := List.drop_left' hkl
  have hn1 := numR_at (b := k.1 ++ (leb x ++ leb y)) (u := 32) (n := x) (t := leb y) hd (by omega)
  have hd2 : (k.1 ++ (leb x ++ leb y)).drop (32 + (leb x).length) = leb y ++ [] := by
    rw [← List.drop_drop, hd, List.drop_left, List.append_nil]
  have hn2 := numR_at (b := k.1 ++ (leb x ++ leb y)) (u := 32 + (leb x).length) (n := y) (t := []) hd2 (by omega)
  unfold readT
  rw [ht1, hn1]
  simp only [hn2]
  rw [if_neg (by simp), if_neg (by simp), if_neg (by simp), if_neg (by rw [hlen, ht]; simp; omega)]
theorem sealS_mem {a : Alg} {key : Tg} {nonce : Int} {plain : List UInt8} (h : (sealS a key nonce plain).2.2 = 0) : (∃ e ∈ (sealS a key nonce plain).1.boxes, e.box = (sealS a key nonce plain).2.1 ∧ e.nonce = nonce) ∧ (∀ e ∈ a.boxes, e ∈ (sealS a key nonce plain).1.boxes) ∧ (∀ e ∈ (sealS a key nonce plain).1.boxes, e ∈ a.boxes ∨ e.nonce = nonce) := by
  unfold sealS at h ⊢
  split at h
  · cases h
  · rename_i h1
    split at h
    · cases h
    · rename_i h2
      rw [if_neg h1, if_neg h2]
      split at h
      · rename_i b hb
        obtain ⟨e, he, k1, k2, k3, k4⟩ := boxL_mem hb
        exact ⟨⟨e, he, k4, k2⟩, fun _ h => h, fun _ h => .inl h⟩
      · split at h
        · cases h
        · rename_i h3
          rw [if_neg h3]
          refine ⟨⟨_, List.mem_append_right _ (List.mem_singleton.2 rfl), rfl, rfl⟩, fun _ h => List.mem_append_left _ h, fun e he => ?_⟩
          rcases List.mem_append.1 he with he | he
          · exact .inl he
          · rw [List.mem_singleton.1 he]; exact .inr rfl
/-- Boxes with different numbers are different. -/
theorem box_ne {a : Alg} (ok : AlgOk a) (hl : a.boxes.length ≤ 900000) {e e' : BoxE} (he : e ∈ a.boxes) (he' : e' ∈ a.boxes) (h : e.box = e'.box) : e.nonce = e'.nonce := by
  cases hfr : a.free with
  | true =>
    obtain ⟨i, hi, rfl⟩ := List.getElem_of_mem he
    obtain ⟨j, hj, rfl⟩ := List.getElem_of_mem he'
    rw [ok.bf hfr i hi, ok.bf hfr j hj] at h
    have := symApp_inj (by omega) (by omega) (by omega) (by omega) h
    obtain rfl : i = j := by omega
    rfl
  | false =>
    have p1 := ok.bp e he
    have p2 := ok.bp e' he'
    rw [ok.bn hfr e he, ok.bn hfr e' he'] at h
    unfold sealB at h
    rw [List.append_assoc, List.append_assoc] at h
    exact eightB_inj p1.2.1 (by omega) p2.2.1 (by omega) (List.append_inj_left h (by rw [eightB_len, eightB_len]))
end
end Go.Proofs.YtemmlldpmgfblaaGreatDoor

/- Scenes: what holds of them. -/
namespace Go.Proofs.YtemmlldpmgfblaaGreatDoor
open Go.Ab
attribute [local irreducible] Go.Ab.tyAV Go.Ab.aw Go.Ab.aops Go.Ab.kReg Go.Ab.aThen Go.Ab.aBlk Go.Ab.acond Go.Ab.aguard Go.Ab.astep Go.Ab.AStepX Go.Ab.aRet
attribute [local irreducible] shaG

section
variable [W : W32]
theorem rRun_ex {l : List Int} : ∀ (f j : Nat) (A : Alg) (g : Di), Dk l j → ∃ R, rRun l f j A g R
  | 0, j, A, g, _ => ⟨_, rfl⟩
  | f + 1, j, A, g, h => by
    obtain ⟨p, j1, hp⟩ := PRD_ex h false
    obtain ⟨R, hR⟩ := rRun_ex f j1 (restrS A g p).1 (restrS A g p).2.1 hp.2.2.2.1
    exact ⟨R, p, j1, hp, hR⟩
theorem rRun_good {l : List Int} : ∀ (f j : Nat) (A : Alg) (g : Di) (R : Alg × Di × Nat) (m c : Nat), rRun l f j A g R → Dk l j → AlgIn A m → AlgOk A → g.conds.length ≤ c → (∀ p ∈ g.conds, predB p = true ∧ PrOk p ∧ p.kind ≠ 7) → f + c ≤ 7 → m + f ≤ 50000 →
    AlgIn R.1 (m + f) ∧ AlgOk R.1 ∧ R.1.boxes = A.boxes ∧ R.1.fresh = A.fresh ∧ R.1.free = A.free ∧ R.2.1.ticket = g.ticket ∧ R.2.1.conds.length ≤ c + f ∧ (∀ p ∈ R.2.1.conds, predB p = true ∧ PrOk p ∧ p.kind ≠ 7) ∧ Dk l R.2.2
  | 0, j, A, g, R, m, c, hR, hj, ha, ok, hc, hv, _, _ => by
    have hR : R = (A, g, j) := hR
    subst hR
    exact ⟨ha, ok, rfl, rfl, rfl, rfl, hc, hv, hj⟩
  | f + 1, j, A, g, R, m, c, hR, hj, ha, ok, hc, hv, h1, h2 => by
    obtain ⟨p, j1, ⟨p1, p2, p3, p4, _⟩, hR⟩ := hR
    obtain ⟨r1, r2⟩ := restrS_ok ha (by omega) p1 (p3 rfl) (d := g) (by omega)
    obtain ⟨q1, _, q3, q4⟩ := macS_free r1
    rw [r2] at hR
    have := rRun_good f j1 _ _ R (m + 1) (c + 1) hR p4 (macS_in ha _ _) (ok.mac _ _) (by simp; omega) (fun x hx => by
      rcases List.mem_append.1 hx with hx | hx
      · exact hv x hx
      · rw [List.mem_singleton.1 hx]; exact ⟨p1, p2, p3 rfl⟩) (by omega) (by omega)
    obtain ⟨k1, k2, k3, k4, k5, k6, k7, k8, k9⟩ := this
    exact ⟨by rw [show m + (f + 1) = m + 1 + f by omega]; exact k1, k2, k3.trans q4, k4.trans q3, k5.trans q1, k6, by omega, k8, k9⟩
/-- A caveat of a third party is added, and its discharge granted. -/
theorem Good.thd {con : Co} {se mi : Int} {S : Ss} {n m : Nat} (h : Good con se S n m) (hm : m ≤ 1000) (hn : n ≤ 6) (c0 : 0 ≤ con.party) (c7 : con.party ≤ 7) {bo : Int} (hf : findP con.ps ann = (⟨ann, bo⟩, true)) (b0 : -60000000 ≤ bo) (b1 : bo ≤ 0) (m0 : 0 ≤ mi) (m1 : mi ≤ 10000)
    {l : List Int} {f j : Nat} (hj : Dk l j) (hf2 : f ≤ 2) {R2 : Alg × Di × Nat} (hR : rRun l f j (GR S con mi).1 (GR S con mi).2.1 R2) :
    Good con se ⟨R2.1, (AD S con).2.1, S.gs ++ [R2.2.1]⟩ (n + 1) (m + 12) ∧ Dk l R2.2.2 := by
  obtain ⟨hk, hb2, hB⟩ := blankS_ok h.ain (by omega) (c := con) (t := ⟨0, 150⟩) rfl c0 c7
  have hBL : BL S con = _ := hB
  have okk := h.ok.key
  have ok1 := okk.seal con.key (keyS S.A).1.fresh (plainT (keyS S.A).2.1 ⟨0, 150⟩)
  have ink := keyS_in h.ain
  have in1 := sealS_in ink con.key (keyS S.A).1.fresh (plainT (keyS S.A).2.1 ⟨0, 150⟩)
  have hpl := plainT_len (keyS S.A).2.1 ⟨0, 150⟩ rfl
  have htl := sealS_box okk hb2
  have hop := open_seal okk (by have := ink.bl; omega) hb2
  obtain ⟨hmem, hold, hnew⟩ := sealS_mem hb2
  obtain ⟨sf1, sf2, sf3, sf4⟩ := sealS_free hb2
  have hkf : (keyS S.A).1.fresh = S.A.fresh + 1 := by rw [hk]
  have hkb : (keyS S.A).1.boxes = S.A.boxes := by rw [hk]
  have hAD : AD S con = addS (BL S con).1 S.p (BL S con).2.1 := rfl
  have hGR : GR S con mi = grantS (AD S con).1 con (BL S con).2.1.ticket ann mi := rfl
  rw [hBL] at hAD hGR
  simp only at hAD hGR
  clear hB hBL
  generalize (keyS S.A).2.1 = kt at *
  have hrd : readT (plainT kt ⟨0, 150⟩) = (kt, ⟨0, 150⟩, 0) := readT_plain rfl
  generalize plainT kt ⟨0, 150⟩ = pl at *
  generalize sealS (keyS S.A).1 con.key (keyS S.A).1.fresh pl = X at *
  obtain ⟨a1, tk, e1⟩ := X
  simp only at *
  have tk1 : 1 ≤ tk.length := by omega
  have tk2 : tk.length ≤ 90 := by omega
  -- the caveat
  obtain ⟨A1, A2, A3, A4⟩ := addS_ok ok1 in1 (by omega) (p := S.p) (b := ⟨con.party, kt, tk⟩) (by have := h.cl; omega) (by have := h.th; omega) c0 c7 tk1 (by simp only; omega)
  simp only at A1 A2 A3 A4
  rw [A4] at hAD
  have in2 := macS_in in1 S.p.tag (sealM tk)
  have ok2 := ok1.mac S.p.tag (sealM tk)
  have op2 := open_mac A1 con.key tk
  rw [hop] at op2
  obtain ⟨f21, _, f23, f24⟩ := macS_free A1
  generalize macS a1 S.p.tag (sealM tk) = Y at *
  obtain ⟨a2, t2, e2⟩ := Y
  simp only at *
  have in3 := sealS_in in2 t2 0 kt.1
  have ok3 := ok2.seal t2 0 kt.1
  have op3 := open_mono A2 op2
  obtain ⟨_, s31, s32⟩ := sealS_mem A2
  obtain ⟨f31, _, f33, _⟩ := sealS_free A2
  have bxl := sealS_box ok2 A2
  rw [kt.2] at bxl
  generalize sealS a2 t2 0 kt.1 = Z at *
  obtain ⟨a3, bx, e3⟩ := Z
  simp only at *
  have hat := attS_ok in3 (by omega) (p := S.p) A3 (by have := h.cl; omega) (fun _ => by have := h.th; omega)
  have hcm := cavM_len ⟨true, zeroPr, con.party, tk, bx⟩
  obtain ⟨n1, n2, n3⟩ := nodeS_ok in3 (by omega) S.p.tag (msg := cavM ⟨true, zeroPr, con.party, tk, bx⟩) (by omega)
  obtain ⟨_, k2, k3, k4⟩ := nodeS_keeps in3 (by omega) S.p.tag (msg := cavM ⟨true, zeroPr, con.party, tk, bx⟩) (by omega)
  have in4 := nodeS_in in3 S.p.tag (cavM ⟨true, zeroPr, con.party, tk, bx⟩)
  have ok4 := ok3.node in3 (by omega) S.p.tag (msg := cavM ⟨true, zeroPr, con.party, tk, bx⟩) (by omega)
  have op4 : openS (nodeS a3 S.p.tag (cavM ⟨true, zeroPr, con.party, tk, bx⟩)).1 con.key tk = (pl, 0) := by
    rw [n3]; simp only; rw [open_mac n2, open_mac n1]; exact op3
  rw [hat] at hAD
  clear n1 n2 n3 hat hcm
  generalize (nodeS a3 S.p.tag (cavM ⟨true, zeroPr, con.party, tk, bx⟩)).2.1 = t4 at *
  generalize (nodeS a3 S.p.tag (cavM ⟨true, zeroPr, con.party, tk, bx⟩)).1 = a4 at *
  -- the discharge
  have hoT : openT a4 con tk = (kt, ⟨0, 150⟩, 0) := by
    unfold openT; rw [op4]; simp only; rw [if_neg (by simp)]; exact hrd
  have hag := age_ok (b := bo) m0 m1 b0 b1
  have hm1 : (macS a4 kt (grantM tk)).2.2 = 0 := macS_ok _ (by simp [grantM]; omega) (by have := in4.ml; omega)
  have hpv : predB (holdP ann) = true := by decide
  have in5 := macS_in in4 kt (grantM tk)
  have ok5 := ok4.mac kt (grantM tk)
  obtain ⟨f51, _, f53, f54⟩ := macS_free hm1
  rw [hAD] at hGR
  have hG2 : grantS a4 con tk ann mi = restrS (macS a4 kt (grantM tk)).1 ⟨tk, [], (macS a4 kt (grantM tk)).2.1⟩ (holdP ann) := by
    unfold grantS
    rw [if_neg (show ¬ nameB ann = false by decide), if_neg (by omega), hoT]
    simp only
    rw [if_neg (by simp), hf]
    simp only
    rw [if_neg (by simp), if_neg (by omega), if_pos hm1]
  simp only at hGR
  rw [hG2] at hGR
  generalize macS a4 kt (grantM tk) = V at *
  obtain ⟨a5, t5, e5⟩ := V
  simp only at *
  obtain ⟨r1, r2⟩ := restrS_ok in5 (by omega) (d := ⟨tk, [], t5⟩) hpv (show (holdP ann).kind ≠ 7 by decide) (by simp)
  simp only at r1 r2
  rw [r2] at hGR
  obtain ⟨f61, _, f63, f64⟩ := macS_free r1
  have in6 := macS_in in5 t5 (condM (holdP ann))
  have ok6 := ok5.mac t5 (condM (holdP ann))
  rw [hGR] at hR
  simp only at hR
  have hrg := rRun_good f j _ _ R2 (m + 8) 1 hR hj (in6.more (by omega)) ok6 (by simp) (fun p hp => by
    simp only [List.nil_append, List.mem_singleton] at hp
    rw [hp]; exact ⟨hpv, ⟨by decide, by decide, by decide⟩, by decide⟩) (by omega) (by omega)
  obtain ⟨g1, g2, g3, g4, g5, g6, g7, g8, g9⟩ := hrg
  obtain ⟨A', g', j'⟩ := R2
  simp only at *
  have hbox : A'.boxes = a3.boxes := by rw [g3, f64, f54, k4]
  have hfre : A'.fresh = S.A.fresh + 1 := by rw [g4, f63, f53, k3, f33, f23, sf3, hkf]
  have hb31 : ∀ e ∈ a1.boxes, e ∈ a3.boxes := fun e he => s31 e (by rw [f24]; exact he)
  have hbS : ∀ e ∈ S.A.boxes, e ∈ a3.boxes := fun e he => hb31 e (hold e (by rw [hkb]; exact he))
  have hf0 := h.ain.f0
  obtain ⟨e0, he0, he01, he02⟩ := hmem
  have hgl := h.gl
  have in3b := in3.bl
  refine ⟨⟨g1.more (by omega), g2, by rw [hAD]; exact h.ep, by rw [hAD]; exact h.es, ?_, fun c hc => ?_, ?_, ?_, fun g hg => ?_, fun e he => ?_, fun g hg => ?_, fun i q hi hq heq => ?_⟩, g9⟩
  · rw [hAD]; have := h.cl; simp; omega
  · rw [hAD] at hc
    simp only at hc
    rcases List.mem_append.1 hc with hc | hc
    · exact h.cv c hc
    · rw [List.mem_singleton.1 hc]; exact ⟨A3, zeroPr_ok, by simp only; omega, by simp only; omega⟩
  · rw [hAD]; have := thirds_app S.p.cavs ⟨true, zeroPr, con.party, tk, bx⟩; have := h.th; simp only; omega
  · simp; omega
  · simp only at hg
    rcases List.mem_append.1 hg with hg | hg
    · exact h.gv g hg
    · rw [List.mem_singleton.1 hg]
      exact ⟨by rw [g6]; exact tk1, by rw [g6]; omega, by omega, g8⟩
  · simp only at he ⊢
    rw [hbox] at he
    rw [hfre]
    rcases s32 e he with he | he
    · rw [f24] at he
      rcases hnew e he with he | he
      · rw [hkb] at he
        have := h.nf e he
        omega
      · rw [he, hkf]; omega
    · rw [he]; omega
  · simp only at hg ⊢
    rw [hbox]
    rcases List.mem_append.1 hg with hg | hg
    · obtain ⟨e, he, h1, h2⟩ := h.gb g hg
      exact ⟨e, hbS e he, h1, h2⟩
    · rw [List.mem_singleton.1 hg]
      exact ⟨e0, hb31 e0 he0, by rw [he01, g6], by rw [he02, hkf]; omega⟩
  · simp only [List.length_append, List.length_singleton] at hi hq
    have key : ∀ i (hi : i < S.gs.length), (S.gs[i]).ticket ≠ tk := fun i hi heq => by
      obtain ⟨e, he, h1, h2⟩ := h.gb _ (List.getElem_mem hi)
      have := box_ne ok3 (by omega) (hbS e he) (hb31 e0 he0) (by rw [h1, he01, heq])
      rw [he02, hkf] at this
      have := h.nf e he
      omega
    rcases Nat.lt_or_ge i S.gs.length with h1 | h1 <;> rcases Nat.lt_or_ge q S.gs.length with h2 | h2
    · simp only [List.getElem_append_left h1, List.getElem_append_left h2] at heq
      exact h.gd i q h1 h2 heq
    · obtain rfl : q = S.gs.length := by omega
      simp only [List.getElem_append_left h1, List.getElem_append_right (Nat.le_refl _), Nat.sub_self, List.getElem_singleton, g6] at heq
      exact absurd heq (key i h1)
    · obtain rfl : i = S.gs.length := by omega
      simp only [List.getElem_append_left h2, List.getElem_append_right (Nat.le_refl _), Nat.sub_self, List.getElem_singleton, g6] at heq
      exact absurd heq.symm (key q h2)
    · omega
theorem sRun_ex {l : List Int} {con : Co} {se mi : Int} (c0 : 0 ≤ con.party) (c7 : con.party ≤ 7) {bo : Int} (hf : findP con.ps ann = (⟨ann, bo⟩, true)) (b0 : -60000000 ≤ bo) (b1 : bo ≤ 0) (m0 : 0 ≤ mi) (m1 : mi ≤ 10000) :
    ∀ (f j n m : Nat) (S : Ss), Dk l j → Good con se S n m → f + n ≤ 6 → m + 12 * f ≤ 1000 → ∃ R, sRun l con mi f j S R ∧ Good con se R.1 (n + f) (m + 12 * f) ∧ Dk l R.2
  | 0, j, n, m, S, hj, hS, _, _ => ⟨_, rfl, hS, hj⟩
  | f + 1, j, n, m, S, hj, hS, h1, h2 => by
    have d1 := nextD_dk 4 hj
    by_cases hx : (nextD l j 4).1 = 0
    · have d2 := nextD_dk 3 d1
      have b2 := nextD_lt l (nextD l j 4).2 3 (by omega)
      obtain ⟨R2, hR2⟩ := rRun_ex (nextD l (nextD l j 4).2 3).1 (nextD l (nextD l j 4).2 3).2 (GR S con mi).1 (GR S con mi).2.1 d2
      obtain ⟨hg, hd⟩ := hS.thd (by omega) (by omega) c0 c7 hf b0 b1 m0 m1 d2 (by omega) hR2
      obtain ⟨R, hR, hG, hD⟩ := sRun_ex c0 c7 hf b0 b1 m0 m1 f R2.2.2 (n + 1) (m + 12) _ hd hg (by omega) (by omega)
      refine ⟨R, ⟨fun h => absurd hx h, fun _ => ⟨R2, hR2, hR⟩⟩, ?_, hD⟩
      rw [show n + (f + 1) = n + 1 + f by omega, show m + 12 * (f + 1) = m + 12 + 12 * f by omega]
      exact hG
    · obtain ⟨p, j1, hp⟩ := PRD_ex d1 true
      have hg := hS.nar (by omega) (by omega) hp.1 hp.2.1
      obtain ⟨R, hR, hG, hD⟩ := sRun_ex c0 c7 hf b0 b1 m0 m1 f j1 (n + 1) (m + 12) _ hp.2.2.2.1 { hg with ain := hg.ain.more (by omega) } (by omega) (by omega)
      refine ⟨R, ⟨fun _ => ⟨p, j1, hp, hR⟩, fun h => absurd h hx⟩, ?_, hD⟩
      rw [show n + (f + 1) = n + 1 + f by omega, show m + 12 * (f + 1) = m + 12 + 12 * f by omega]
      exact hG
end
end Go.Proofs.YtemmlldpmgfblaaGreatDoor

/- The deck: Algebra. -/
namespace Go.Proofs.YtemmlldpmgfblaaGreatDoor
open Go.Ab
attribute [local irreducible] Go.Ab.tyAV Go.Ab.aw Go.Ab.aops Go.Ab.kReg Go.Ab.aThen Go.Ab.aBlk Go.Ab.acond Go.Ab.aguard Go.Ab.astep Go.Ab.AStepX Go.Ab.aRet
attribute [local irreducible] shaG

theorem refNew_spec (fr : Bool) (sd : Tg) (k : Nat) :
    ACall Tryz.prog 67 [.lit (.bool fr), tagAV sd] k [] (algAV ⟨fr, sd, 0, [], []⟩) [] := by
  simp only [algAV, List.map_nil]
  refine Bd Tryz.func67 Tryz.ntmps67 fun σ N hp hpn hk hkn hfree => ?_
  exact WA
section
variable [W : W32]
end
end Go.Proofs.YtemmlldpmgfblaaGreatDoor

/- Scenes: the walk. -/
namespace Go.Proofs.YtemmlldpmgfblaaGreatDoor
open Go.Ab
attribute [local irreducible] Go.Ab.tyAV Go.Ab.aw Go.Ab.aops Go.Ab.kReg Go.Ab.aThen Go.Ab.aBlk Go.Ab.acond Go.Ab.aguard Go.Ab.astep Go.Ab.AStepX Go.Ab.aRet
attribute [local irreducible] shaG

section
variable [W : W32]
theorem Good.tick {con : Co} {se : Int} {S : Ss} {n m : Nat} (h : Good con se S n m) (hm : m ≤ 1000) (c0 : 0 ≤ con.party) (c7 : con.party ≤ 7) : (BL S con).2.1.ticket.length ≤ 1000 := by
  obtain ⟨hk, hb2, hB⟩ := blankS_ok h.ain (by omega) (c := con) (t := ⟨0, 150⟩) rfl c0 c7
  have hBL : BL S con = _ := hB
  have hpl := plainT_len (keyS S.A).2.1 ⟨0, 150⟩ rfl
  have htl := sealS_box h.ok.key hb2
  rw [hBL]
  simp only
  omega
theorem grantS_conds {a : Alg} {c : Co} {t holder : List UInt8} {mi : Int} : (grantS a c t holder mi).2.1.conds.length ≤ 1 := by
  unfold grantS
  repeat' split
  all_goals first | (simp [di0]; done) | skip
  unfold restrS
  repeat' split
  all_goals simp [di0]
theorem restrS_conds {a : Alg} {d : Di} {p : Pr} : (restrS a d p).2.1.conds.length ≤ d.conds.length + 1 := by
  unfold restrS
  repeat' split
  all_goals simp [di0]
set_option maxHeartbeats 16000000 in
theorem Scene_walk (l : List Int) (i : Nat) (h : Dk l i) (q0 j0 : Nat) (sd : Tg) (j1 mi j2 pt j3 bo j4 ga j5 no j6 se j7 K j8 : Nat) (a1 a2 a3 : Alg) (k1 k2 : Tg) (e1' e2' e3' : Nat) (pa : Pa) (con : Co)
    (h0 : nextD l i 2 = (q0, j0)) (h1 : tagD l j0 = (sd, j1)) (h2 : keyS ⟨decide (q0 = 0), sd, 0, [], []⟩ = (a1, k1, e1')) (h3 : keyS a1 = (a2, k2, e2')) (h4 : nextD l j1 3000 = (mi, j2)) (h5 : nextD l j2 8 = (pt, j3)) (h6 : nextD l j3 60 = (bo, j4)) (h7 : nextD l j4 8 = (ga, j5)) (h8 : rangeD l j5 1 100 = (no, j6)) (h9 : rangeD l j6 1 50 = (se, j7))
    (h10 : mintS a2 2 k2 (se : Nat) = (a3, pa, e3')) (h11 : nextD l j7 6 = (K, j8)) (hcon : con = ⟨pt, k1, [⟨ann, -(bo : Int) * 365 * 1440⟩, ⟨[98, 111, 98], 0⟩]⟩) (hpt : pt ≤ 7) (hbo : bo ≤ 59) (hmi : mi ≤ 2999) (hK : K ≤ 5)
    (hG0 : Good con (se : Nat) ⟨a3, pa, []⟩ 0 10) (R1 : Ss) (R2 : Nat) (hrun0 : sRun l con (mi : Nat) K j8 ⟨a3, pa, []⟩ (R1, R2)) (d k : Nat) :
    ACall Tryz.prog 42 [.ptr d [] 0, .lit (.bool false)] k [(d, deckBox l i)] (scAV ⟨R1.A, ⟨[⟨2, k2⟩], 3⟩, con, R1.p, R1.gs, ⟨ga, no⟩, ann, mi⟩) [(d, deckBox l R2)] := by
  have d0 : Dk l j0 := by have := nextD_dk 2 h; rw [h0] at this; exact this
  have d1 : Dk l j1 := by have := tagD_dk d0; rw [h1] at this; exact this
  have d2 : Dk l j2 := by have := nextD_dk 3000 d1; rw [h4] at this; exact this
  have d3 : Dk l j3 := by have := nextD_dk 8 d2; rw [h5] at this; exact this
  have d4 : Dk l j4 := by have := nextD_dk 60 d3; rw [h6] at this; exact this
  have d5 : Dk l j5 := by have := nextD_dk 8 d4; rw [h7] at this; exact this
  have d6 : Dk l j6 := by have := rangeD_dk (lo := 1) (n := 100) d5; rw [h8] at this; exact this
  have d7 : Dk l j7 := by have := rangeD_dk (lo := 1) (n := 50) d6; rw [h9] at this; exact this
  have d8 : Dk l j8 := by have := nextD_dk 6 d7; rw [h11] at this; exact this
  have c1 := Next_spec l i 2 h (by omega) (by omega)
  have c2 := Tag_spec l j0 d0
  have c3 := refNew_spec (decide (q0 = 0)) sd
  have i0 : AlgIn ⟨decide (q0 = 0), sd, 0, [], []⟩ 0 := ⟨by simp, by simp, by simp, by simp, fun e he => by simp at he, fun e he => by simp at he⟩
  have c4 := Key_spec ⟨decide (q0 = 0), sd, 0, [], []⟩ (by simp)
  have i1 : AlgIn a1 1 := by have := keyS_in i0; rw [h2] at this; exact this
  have c5 := Key_spec a1 i1.f0
  have i2 : AlgIn a2 2 := by have := keyS_in i1; rw [h3] at this; exact this
  have c6 := Next_spec l j1 3000 d1 (by omega) (by omega)
  have c7 := Next_spec l j2 8 d2 (by omega) (by omega)
  have c8 := Next_spec l j3 60 d3 (by omega) (by omega)
  have c9 := Next_spec l j4 8 d4 (by omega) (by omega)
  have c10 := Range_spec l j5 1 100 100 d5 (by omega) (by omega) (by omega) (by omega)
  have c11 := Range_spec l j6 1 50 50 d6 (by omega) (by omega) (by omega) (by omega)
  have c12 := refMint_spec a2 2 i2 (by omega) 2 (se : Nat) k2
  have c13 := Next_spec l j7 6 d7 (by omega) (by omega)
  rw [h0] at c1
  rw [h1] at c2
  rw [h2] at c4
  rw [h3] at c5
  rw [h4] at c6
  rw [h5] at c7
  rw [h6] at c8
  rw [h7] at c9
  rw [h8] at c10
  rw [h9] at c11
  rw [h10] at c12
  rw [h11] at c13
  unfold mkAV at c4 c5
  unfold mpAV at c12
  simp only at c1 c2 c4 c5 c6 c7 c8 c9 c10 c11 c12 c13
  clear h0 h1 h2 h3 h4 h5 h6 h7 h8 h9 h10 h11 i0 i1 i2 d0 d1 d2 d3 d4 d5 d6 d7 h
  have hq0 : ((q0 : Int) == 0) = decide (q0 = 0) := by
    by_cases hq : q0 = 0
    · subst hq; rfl
    · rw [decide_eq_false hq, beq_eq_false_iff_ne]; omega
  have hq1 : decide ((q0 : Int) = 0) = decide (q0 = 0) := by congr 1; exact propext (by omega)
  generalize decide (q0 = 0) = fr at *
  have hc0 : 0 ≤ con.party := by rw [hcon]; simp
  have hc7 : con.party ≤ 7 := by rw [hcon]; simp only; omega
  obtain ⟨bon, hbon⟩ : ∃ x : Int, -(bo : Int) * 365 * 1440 = x := ⟨_, rfl⟩
  have hb0 : -60000000 ≤ bon := by omega
  have hb1 : bon ≤ 0 := by omega
  rw [hbon] at hcon
  have hfp : findP con.ps ann = (⟨ann, bon⟩, true) := by rw [hcon]; rfl
  have hcA : concAV con = .agg [.lit (.int .i64 (pt : Int)), tagAV k1, .slice none [.agg [.lit (.string ⟨#[97, 110, 110]⟩), .lit (.int .i64 bon)], .agg [.lit (.string ⟨#[98, 111, 98]⟩), .lit (.int .i64 0)]]] := by rw [hcon]; rfl
  have hcps : con.ps.length = 2 := by rw [hcon]; rfl
  have hres : scAV ⟨R1.A, ⟨[⟨2, k2⟩], 3⟩, con, R1.p, R1.gs, ⟨ga, no⟩, ann, mi⟩ = .agg [algAV R1.A, .agg [.slice none [.agg [.lit (.int .i64 2), tagAV k2]], .lit (.int .i64 3)], .agg [.lit (.int .i64 (pt : Int)), tagAV k1, .slice none [.agg [.lit (.string ⟨#[97, 110, 110]⟩), .lit (.int .i64 bon)], .agg [.lit (.string ⟨#[98, 111, 98]⟩), .lit (.int .i64 0)]]], paAV R1.p, .slice none (R1.gs.map diAV), .agg [.lit (.int .i64 (ga : Int)), .lit (.int .i64 (no : Int))], .lit (.string ⟨#[97, 110, 110]⟩), .lit (.int .i64 (mi : Int))] := by
    unfold scAV; simp only; rw [hcA]; rfl
  rw [hres]
  clear hres hcon
  refine Bd Tryz.func42 Tryz.ntmps42 fun σ N hp hpn hk hkn hfree => ?_
  obtain ⟨hd, hdn⟩ := HD0 hp hpn; clear hp hpn
  have hcs := And.intro (c1 d) (And.intro (c2 d) (And.intro c3 (And.intro c4 (And.intro c5 (And.intro (c6 d) (And.intro (c7 d) (And.intro (c8 d) (And.intro (c9 d) (And.intro (c10 d) (And.intro (c11 d) (And.intro c12 (And.intro (c13 d) True.intro))))))))))))
  clear c1 c2 c3 c4 c5 c6 c7 c8 c9 c10 c11 c12 c13
  refine Wm ?_
  iterate 6 refine Wz ?_
  replace hcs := hcs.2.2.2.2.2
  iterate 7 refine Wz ?_
  clear hcs
  refine go_lessIn (N + 1) [1, 0] (.slice none [.agg [.lit (.int .i64 2), tagAV k2]]) (bt := 47) (c := .agg [algAV a3, .agg [.slice (some (N + 32 + 2)) [.agg [.lit (.int .i64 2), tagAV k2]], .lit (.int .i64 3)], .agg [.lit (.int .i64 (pt : Int)), tagAV k1, .slice (some (N + 44 + 10)) [.agg [.lit (.string ⟨#[97, 110, 110]⟩), .lit (.int .i64 bon)], .agg [.lit (.string ⟨#[98, 111, 98]⟩), .lit (.int .i64 0)]]], paAV pa, .nils, .agg [.lit (.int .i64 (ga : Int)), .lit (.int .i64 (no : Int))], .lit (.string ⟨#[97, 110, 110]⟩), .lit (.int .i64 (mi : Int))]) (by simp (disch := omega) [go_sem, *, -List.reduceReplicate]) rfl (AV.le_own _ _) rfl rfl ?_
  refine go_lessIn (N + 1) [2, 2] (.slice none [.agg [.lit (.string ⟨#[97, 110, 110]⟩), .lit (.int .i64 bon)], .agg [.lit (.string ⟨#[98, 111, 98]⟩), .lit (.int .i64 0)]]) (bt := 47) (c := .agg [algAV a3, .agg [.slice none [.agg [.lit (.int .i64 2), tagAV k2]], .lit (.int .i64 3)], .agg [.lit (.int .i64 (pt : Int)), tagAV k1, .slice (some (N + 44 + 10)) [.agg [.lit (.string ⟨#[97, 110, 110]⟩), .lit (.int .i64 bon)], .agg [.lit (.string ⟨#[98, 111, 98]⟩), .lit (.int .i64 0)]]], paAV pa, .nils, .agg [.lit (.int .i64 (ga : Int)), .lit (.int .i64 (no : Int))], .lit (.string ⟨#[97, 110, 110]⟩), .lit (.int .i64 (mi : Int))]) (by simp (disch := omega) [go_sem, *, -List.reduceReplicate]; try rfl) rfl (AV.le_own _ _) rfl rfl ?_
  refine go_nilrowIn (N + 1) [4] 66 34 (bt := 47) (c := .agg [algAV a3, .agg [.slice none [.agg [.lit (.int .i64 2), tagAV k2]], .lit (.int .i64 3)], .agg [.lit (.int .i64 (pt : Int)), tagAV k1, .slice none [.agg [.lit (.string ⟨#[97, 110, 110]⟩), .lit (.int .i64 bon)], .agg [.lit (.string ⟨#[98, 111, 98]⟩), .lit (.int .i64 0)]]], paAV pa, .nils, .agg [.lit (.int .i64 (ga : Int)), .lit (.int .i64 (no : Int))], .lit (.string ⟨#[97, 110, 110]⟩), .lit (.int .i64 (mi : Int))]) (by simp (disch := omega) [go_sem, *, -List.reduceReplicate]; try rfl) rfl ?_
  refine go_loopF mixed (by kernel_rfl) (8 :: 9 :: 10 :: 11 :: 12 :: 13 :: 83 :: 84 :: 85 :: 86 :: 87 :: 88 :: 89 :: 90 :: 91 :: 92 :: 93 :: 94 :: 95 :: 96 :: 97 :: 98 :: 99 :: 100 :: 101 :: 102 :: 103 :: 104 :: 105 :: 106 :: 107 :: 108 :: 109 :: 110 :: 111 :: 112 :: 113 :: 114 :: 115 :: 116 :: 117 :: 118 :: 119 :: 120 :: 121 :: 122 :: 123 :: 124 :: 125 :: 126 :: 127 :: 128 :: 129 :: 130 :: 131 :: 132 :: 133 :: 134 :: 135 :: 136 :: 137 :: 138 :: 139 :: 140 :: 141 :: 142 :: 143 :: 144 :: 145 :: 146 :: 147 :: 148 :: 149 :: 150 :: 151 :: 152 :: 153 :: 154 :: 155 :: 156 :: 157 :: 158 :: 159 :: 160 :: 161 :: 162 :: 163 :: 164 :: 165 :: 166 :: 167 :: 168 :: 169 :: 170 :: 171 :: 172 :: 173 :: 174 :: []) [d, N+1, N+86] (fun m_ s_ σ_ n_ => ∃ (f : Nat) (j' : Nat) (S : Ss) (n1 : Nat) (m1 : Nat), m_ = f ∧ s_ 8 = .lit (.int .i64 f) ∧ σ_ (d) = deckBox l j' ∧ σ_ (N+1) = .box 47 (.agg [algAV S.A, .agg [.slice none [.agg [.lit (.int .i64 2), tagAV k2]], .lit (.int .i64 3)], .agg [.lit (.int .i64 (pt : Int)), tagAV k1, .slice none [.agg [.lit (.string ⟨#[97, 110, 110]⟩), .lit (.int .i64 bon)], .agg [.lit (.string ⟨#[98, 111, 98]⟩), .lit (.int .i64 0)]]], paAV S.p, .slice (some (N + 86)) (S.gs.map diAV), .agg [.lit (.int .i64 (ga : Int)), .lit (.int .i64 (no : Int))], .lit (.string ⟨#[97, 110, 110]⟩), .lit (.int .i64 (mi : Int))]) ∧ σ_ (N+86) = .row 66 34 S.gs.length ∧ (f + n1 ≤ 6) ∧ (m1 + 12 * f ≤ 1000) ∧ (Dk l j') ∧ (Good con (se : Nat) S n1 m1) ∧ (sRun l con (mi : Nat) f j' S (R1, R2))) ⟨_, K, j8, ⟨a3, pa, []⟩, 0, 10, rfl, WF, WF, WF, WF, WC, WC, WC, WC, WC⟩ ?_
  intro m_1 s_1 σ_1 n_1 hs_1 hf_1 hn_1 hI_1
  obtain ⟨f, j', S, n1, m1, hm_1, h1_8, e1_0, e1_1, e1_2, hfn, hfm, hj, hG, hrun⟩ := hI_1
  have h1_0 := KS hs_1 0
  have h1_1 := KS hs_1 1
  have h1_4 := KS hs_1 4
  have h1_5 := KS hs_1 5
  have k1_0 := KE hf_1 (N)
  have hlow := KD (N := N) (d := d) (σ := σ) hf_1
  clear hG0 hrun0 d8
  cases f with
  | zero =>
    have hrun : (R1, R2) = (S, j') := hrun
    simp only [Prod.mk.injEq] at hrun
    obtain ⟨rfl, rfl⟩ := hrun
    clear hG hj
    refine Wk ?_
    exact RV (d) (deckBox l R2)
  | succ f =>
    obtain ⟨hr1, hr2⟩ := hrun
    have t1 := Next_spec l j' 4 hj (by omega) (by omega)
    have e1x := nextD_dk 4 hj
    have b1x := nextD_lt l j' 4 (by omega)
    have hgs := hG.gl
    have hb24 : (S.gs.length + 1) * 80 ≤ 140737488355328 := by omega
    have hb25 : S.gs.length ≤ 140737488355327 := by omega
    by_cases hx : (nextD l j' 4).1 = 0
    · obtain ⟨X2, hX2, hrun⟩ := hr2 hx
      clear hr1 hr2
      have e2x := nextD_dk 3 e1x
      have b2x := nextD_lt l (nextD l j' 4).2 3 (by omega)
      obtain ⟨hG2, hd2⟩ := hG.thd (by omega) (by omega) hc0 hc7 hfp hb0 hb1 (by omega) (by omega) e2x (by omega) hX2
      have t2 := refBlank_spec S.A m1 hG.ain (by omega) con ⟨0, 150⟩
      have htk := hG.tick (by omega) hc0 hc7
      have iB : AlgIn (BL S con).1 (m1 + 2) := blankS_in hG.ain con ⟨0, 150⟩
      have hcl := hG.cl
      have t3 := refAdd_spec (BL S con).1 (m1 + 2) iB (by omega) S.p (by omega) (BL S con).2.1 (by omega)
      have iA : AlgIn (AD S con).1 (m1 + 6) := addS_in iB S.p (BL S con).2.1
      have t4 := refGrant_spec (AD S con).1 (m1 + 6) iA (by omega) con (by omega) (BL S con).2.1.ticket (by omega) ann (by decide) (mi : Nat)
      have iG : AlgIn (GR S con (mi : Nat)).1 (m1 + 8) := grantS_in iA con (BL S con).2.1.ticket ann (mi : Nat)
      have hcG := grantS_conds (a := (AD S con).1) (c := con) (t := (BL S con).2.1.ticket) (holder := ann) (mi := (mi : Nat))
      have t5 := Next_spec l (nextD l j' 4).2 3 e1x (by omega) (by omega)
      have hBL : blankS S.A con ⟨0, 150⟩ = BL S con := rfl
      have hAD : addS (BL S con).1 S.p (BL S con).2.1 = AD S con := rfl
      have hGR : grantS (AD S con).1 con (BL S con).2.1.ticket ann (mi : Nat) = GR S con (mi : Nat) := rfl
      simp only [hBL] at t2
      simp only [hAD] at t3
      simp only [hGR] at t4 iG hcG
      clear hBL hAD hGR iA iB hG
      generalize hBL : BL S con = B at *
      generalize hAD : AD S con = D at *
      generalize hGR : GR S con (mi : Nat) = G at *
      obtain ⟨aB, bl, eB⟩ := B
      obtain ⟨aD, pD, eD⟩ := D
      obtain ⟨aG, gG, eG⟩ := G
      clear hBL hAD hGR
      have hG3 := hG2
      clear hG2
      generalize nextD l (nextD l j' 4).2 3 = Y at *
      generalize nextD l j' 4 = X at *
      obtain ⟨x, jx⟩ := X
      obtain ⟨y, jy⟩ := Y
      obtain ⟨Q1, Q2, Q3⟩ := X2
      unfold mlAV at t2
      unfold mpAV at t3
      unfold mdAV at t4
      obtain ⟨bp, bk, bt⟩ := bl
      unfold strAV ann at t4
      simp only at *
      subst hx
      have hblA : blAV ⟨bp, bk, bt⟩ = .agg [.lit (.int .i64 bp), tagAV bk, .slice none (bt.map byteAV)] := rfl
      have hte : teAV ⟨0, 150⟩ = .agg [.lit (.int .i64 0), .lit (.int .i64 150)] := rfl
      have iG2 : AlgIn aG (1100 - y) := iG.more (by omega)
      have hcG2 : gG.conds.length + y ≤ 10 := by omega
      have hy2 : y ≤ 2 := by omega
      have hcs := And.intro (t1 d) (And.intro t2 (And.intro t3 (And.intro t4 (And.intro (t5 d) True.intro))))
      clear t1 t2 t3 t4 t5 e1x hj
      refine Wk ?_
      clear hcs hblA hte
      refine go_loopF mixed (by kernel_rfl) [12, 13, 151, 152, 153, 154, 155, 156, 157, 158, 159, 160, 161, 162, 163, 164, 165, 166, 167, 168] [d, N+1, n_1+33] (fun m_ s_ σ_ n_ => ∃ (f2 : Nat) (j2' : Nat) (A2 : Alg) (g2 : Di), m_ = f2 ∧ s_ 12 = .lit (.int .i64 f2) ∧ σ_ (d) = deckBox l j2' ∧ σ_ (N+1) = .box 47 (.agg [algAV A2, .agg [.slice none [.agg [.lit (.int .i64 2), tagAV k2]], .lit (.int .i64 3)], .agg [.lit (.int .i64 (pt : Int)), tagAV k1, .slice none [.agg [.lit (.string ⟨#[97, 110, 110]⟩), .lit (.int .i64 bon)], .agg [.lit (.string ⟨#[98, 111, 98]⟩), .lit (.int .i64 0)]]], paAV pD, .slice (some (N + 86)) (S.gs.map diAV), .agg [.lit (.int .i64 (ga : Int)), .lit (.int .i64 (no : Int))], .lit (.string ⟨#[97, 110, 110]⟩), .lit (.int .i64 (mi : Int))]) ∧ σ_ (n_1+33) = .box 66 (diAV g2) ∧ (f2 ≤ 2) ∧ (Dk l j2') ∧ (AlgIn A2 (1100 - f2)) ∧ (g2.conds.length + f2 ≤ 10) ∧ (rRun l f2 j2' A2 g2 (Q1, Q2, Q3))) ⟨_, y, jy, aG, gG, rfl, WF, WF, WF, WF, WC, WC, WC, WC, WC⟩ ?_
      intro m_2 s_2 σ_2 n_2 hs_2 hf_2 hn_2 hI_2
      obtain ⟨f2, j2', A2, g2, hm_2, h2_12, e2_0, e2_1, e2_2, hf2, hj2, hA2, hg2, hrr⟩ := hI_2
      have h2_0 := KS hs_2 0
      have h2_1 := KS hs_2 1
      have h2_4 := KS hs_2 4
      have h2_5 := KS hs_2 5
      have h2_8 := KS hs_2 8
      have h2_9 := KS hs_2 9
      have h2_10 := KS hs_2 10
      have h2_11 := KS hs_2 11
      have h2_83 := KS hs_2 83
      have h2_84 := KS hs_2 84
      have h2_87 := KS hs_2 87
      have h2_88 := KS hs_2 88
      have h2_89 := KS hs_2 89
      have h2_90 := KS hs_2 90
      have h2_91 := KS hs_2 91
      have h2_92 := KS hs_2 92
      have h2_93 := KS hs_2 93
      have h2_94 := KS hs_2 94
      have h2_95 := KS hs_2 95
      have h2_96 := KS hs_2 96
      have h2_97 := KS hs_2 97
      have h2_98 := KS hs_2 98
      have h2_99 := KS hs_2 99
      have h2_100 := KS hs_2 100
      have h2_101 := KS hs_2 101
      have h2_102 := KS hs_2 102
      have h2_103 := KS hs_2 103
      have h2_104 := KS hs_2 104
      have h2_105 := KS hs_2 105
      have h2_106 := KS hs_2 106
      have h2_108 := KS hs_2 108
      have h2_109 := KS hs_2 109
      have h2_110 := KS hs_2 110
      have h2_111 := KS hs_2 111
      have h2_112 := KS hs_2 112
      have h2_113 := KS hs_2 113
      have h2_114 := KS hs_2 114
      have h2_115 := KS hs_2 115
      have h2_116 := KS hs_2 116
      have h2_117 := KS hs_2 117
      have h2_118 := KS hs_2 118
      have h2_120 := KS hs_2 120
      have h2_121 := KS hs_2 121
      have h2_122 := KS hs_2 122
      have h2_123 := KS hs_2 123
      have h2_124 := KS hs_2 124
      have h2_125 := KS hs_2 125
      have h2_126 := KS hs_2 126
      have h2_127 := KS hs_2 127
      have h2_128 := KS hs_2 128
      have h2_129 := KS hs_2 129
      have h2_131 := KS hs_2 131
      have h2_132 := KS hs_2 132
      have h2_133 := KS hs_2 133
      have h2_134 := KS hs_2 134
      have h2_135 := KS hs_2 135
      have h2_136 := KS hs_2 136
      have h2_137 := KS hs_2 137
      have h2_138 := KS hs_2 138
      have h2_139 := KS hs_2 139
      have h2_140 := KS hs_2 140
      have h2_141 := KS hs_2 141
      have h2_142 := KS hs_2 142
      have h2_143 := KS hs_2 143
      have h2_144 := KS hs_2 144
      have h2_145 := KS hs_2 145
      have h2_146 := KS hs_2 146
      have h2_148 := KS hs_2 148
      have h2_149 := KS hs_2 149
      have h2_150 := KS hs_2 150
      have k2_0 := KE hf_2 (N)
      have k2_1 := KE hf_2 (N + 86)
      have hlow := KD (N := N) (d := d) (σ := σ) hf_2
      clear hX2 iG hcG e2x iG2 hcG2 hy2
      cases f2 with
      | zero =>
        have hrr : (Q1, Q2, Q3) = (A2, g2, j2') := hrr
        simp only [Prod.mk.injEq] at hrr
        obtain ⟨rfl, rfl, rfl⟩ := hrr
        have hmm : S.gs.map diAV ++ [diAV Q2] = (S.gs ++ [Q2]).map diAV := by simp
        have hll : S.gs.length + 1 = (S.gs ++ [Q2]).length := by simp
        generalize S.gs ++ [Q2] = L at *
        clear hA2 hj2
        refine Wk ?_
        exact ⟨WS, WG, WN, _, (show (f) < m_1 by omega), f, Q3, ⟨Q1, pD, L⟩, n1 + 1, m1 + 12, rfl, WF, WF, WF, WF, WC, WC, WC, WC, WC⟩
      | succ f2 =>
        obtain ⟨p, jp, ⟨p1, p2, p3, p4, p5⟩, hrr⟩ := hrr
        have u1 := refRestr_spec A2 (1100 - (f2 + 1)) hA2 (by omega) g2 (by omega) p p2
        have iR := restrS_in hA2 g2 p
        have hcR := restrS_conds (a := A2) (d := g2) (p := p)
        generalize restrS A2 g2 p = Z at *
        obtain ⟨aR, gR, eR⟩ := Z
        unfold mdAV at u1
        simp only at *
        have iR2 : AlgIn aR (1100 - f2) := iR.more (by omega)
        have hcR2 : gR.conds.length + f2 ≤ 10 := by omega
        have hcs := And.intro (p5 d) (And.intro u1 True.intro)
        clear u1 p5 iR hA2 hj2 hcR p1 p2 p3 hrun hG3
        refine Wk ?_
        exact ⟨WS, WG, WN, _, (show (f2) < m_2 by omega), f2, jp, aR, gR, rfl, WF, WF, WF, WF, WC, WC, WC, WC, WC⟩
    · obtain ⟨p, jp, ⟨p1, p2, p3, p4, p5⟩, hrun⟩ := hr1 hx
      clear hr1 hr2
      have hG2 := hG.nar (by omega) (by omega) p1 p2
      have hcl := hG.cl
      have t2 := Narrow_spec S.A m1 hG.ain S.p [p] (by simp; omega) (by simp; omega) (fun z hz => by rw [List.mem_singleton.1 hz]; exact p2)
      have hG3 : Good con (se : Nat) ⟨(narS S.A S.p [p]).1, (narS S.A S.p [p]).2.1, S.gs⟩ (n1 + 1) (m1 + 12) := { hG2 with ain := hG2.ain.more (by omega) }
      clear hG2 hG
      generalize nextD l j' 4 = X at *
      obtain ⟨x, jx⟩ := X
      generalize narS S.A S.p [p] = Z at *
      obtain ⟨aZ, pZ, eZ⟩ := Z
      unfold mpAV at t2
      simp only [List.map_cons, List.map_nil] at *
      have hx0 : (0 : Int) < (x : Int) := by omega
      have hcs := And.intro (t1 d) (And.intro (p5 d) (And.intro t2 True.intro))
      clear t1 t2 p5 e1x hj p1 p2 p3
      refine Wk ?_
      exact ⟨WS, WG, WN, _, (show (f) < m_1 by omega), f, jp, ⟨aZ, pZ, S.gs⟩, n1 + 1, m1 + 12, rfl, WF, WF, WF, WF, WC, WC, WC, WC, WC⟩
end
end Go.Proofs.YtemmlldpmgfblaaGreatDoor

/- Scenes: each list of numbers makes one. -/
namespace Go.Proofs.YtemmlldpmgfblaaGreatDoor
open Go.Ab
attribute [local irreducible] Go.Ab.tyAV Go.Ab.aw Go.Ab.aops Go.Ab.kReg Go.Ab.aThen Go.Ab.aBlk Go.Ab.acond Go.Ab.aguard Go.Ab.astep Go.Ab.AStepX Go.Ab.aRet
attribute [local irreducible] shaG

section
variable [W : W32]
structure ScV (s : Sc) : Prop where
  good : ∃ se : Int, Good s.con se ⟨s.alg, s.pass, s.grants⟩ 5 1000 ∧ 1 ≤ se ∧ se ≤ 50
  rq : rqB s.req = true
theorem Scene_ex (l : List Int) (i : Nat) (h : Dk l i) : ∃ (s : Sc) (j : Nat), ScV s ∧ Dk l j ∧ ∀ d k, ACall Tryz.prog 42 [.ptr d [] 0, .lit (.bool false)] k [(d, deckBox l i)] (scAV s) [(d, deckBox l j)] := by
  rcases h0 : nextD l i 2 with ⟨q0, j0⟩
  have d0 : Dk l j0 := by have := nextD_dk 2 h; rw [h0] at this; exact this
  rcases h1 : tagD l j0 with ⟨sd, j1⟩
  have d1 : Dk l j1 := by have := tagD_dk d0; rw [h1] at this; exact this
  rcases h2 : keyS ⟨decide (q0 = 0), sd, 0, [], []⟩ with ⟨a1, k1, e1⟩
  rcases h3 : keyS a1 with ⟨a2, k2, e2⟩
  rcases h4 : nextD l j1 3000 with ⟨mi, j2⟩
  have d2 : Dk l j2 := by have := nextD_dk 3000 d1; rw [h4] at this; exact this
  have b4 : mi < 3000 := by have := nextD_lt l j1 3000 (by omega); rw [h4] at this; exact this
  rcases h5 : nextD l j2 8 with ⟨pt, j3⟩
  have d3 : Dk l j3 := by have := nextD_dk 8 d2; rw [h5] at this; exact this
  have b5 : pt < 8 := by have := nextD_lt l j2 8 (by omega); rw [h5] at this; exact this
  rcases h6 : nextD l j3 60 with ⟨bo, j4⟩
  have d4 : Dk l j4 := by have := nextD_dk 60 d3; rw [h6] at this; exact this
  have b6 : bo < 60 := by have := nextD_lt l j3 60 (by omega); rw [h6] at this; exact this
  rcases h7 : nextD l j4 8 with ⟨ga, j5⟩
  have d5 : Dk l j5 := by have := nextD_dk 8 d4; rw [h7] at this; exact this
  have b7 : ga < 8 := by have := nextD_lt l j4 8 (by omega); rw [h7] at this; exact this
  rcases h8 : rangeD l j5 1 100 with ⟨no, j6⟩
  have d6 : Dk l j6 := by have := rangeD_dk (lo := 1) (n := 100) d5; rw [h8] at this; exact this
  have b8 : 1 ≤ no ∧ no ≤ 100 := by
    have := nextD_lt l j5 100 (by omega)
    unfold rangeD at h8; rw [Prod.mk.injEq] at h8; omega
  rcases h9 : rangeD l j6 1 50 with ⟨se, j7⟩
  have d7 : Dk l j7 := by have := rangeD_dk (lo := 1) (n := 50) d6; rw [h9] at this; exact this
  have b9 : 1 ≤ se ∧ se ≤ 50 := by
    have := nextD_lt l j6 50 (by omega)
    unfold rangeD at h9; rw [Prod.mk.injEq] at h9; omega
  rcases h10 : mintS a2 2 k2 (se : Nat) with ⟨a3, pa, e3⟩
  rcases h11 : nextD l j7 6 with ⟨K, j8⟩
  have d8 : Dk l j8 := by have := nextD_dk 6 d7; rw [h11] at this; exact this
  have b11 : K < 6 := by have := nextD_lt l j7 6 (by omega); rw [h11] at this; exact this
  have i0 : AlgIn ⟨decide (q0 = 0), sd, 0, [], []⟩ 0 := ⟨by simp, by simp, by simp, by simp, fun e he => by simp at he, fun e he => by simp at he⟩
  have i1 : AlgIn a1 1 := by have := keyS_in i0; rw [h2] at this; exact this
  have i2 : AlgIn a2 2 := by have := keyS_in i1; rw [h3] at this; exact this
  have o1 : AlgOk a1 := by have := (AlgOk.nil (decide (q0 = 0)) sd 0).key; rw [h2] at this; exact this
  have o2 : AlgOk a2 := by have := o1.key; rw [h3] at this; exact this
  have hB1 : a1.boxes = [] := by
    have := keyS_ok (a := ⟨decide (q0 = 0), sd, 0, [], []⟩) (by simp)
    rw [h2, Prod.mk.injEq] at this
    rw [this.1]
  have hB2 : a2.boxes = [] := by
    have := keyS_ok (a := a1) (by have := i1.f1; omega)
    rw [h3, Prod.mk.injEq] at this
    rw [this.1]; exact hB1
  have i3 : AlgIn a3 4 := by have := mintS_in i2 2 k2 (se : Nat); rw [h10] at this; exact this
  have hml := mintM_len se (by omega)
  obtain ⟨n1, n2, n3, n4⟩ := nodeS_keeps i2 (by omega) k2 (msg := mintM se) (by omega)
  have n5 := o2.node i2 (by omega) k2 (msg := mintM se) (by omega)
  have hM : mintS a2 2 k2 (se : Nat) = ((nodeS a2 k2 (mintM se)).1, ⟨2, (se : Nat), [], (nodeS a2 k2 (mintM se)).2.1⟩, 0) := by
    unfold mintS
    rw [if_neg (by omega), if_pos (by rw [Int.toNat_natCast]; exact n1), Int.toNat_natCast]
  rw [h10, Prod.mk.injEq, Prod.mk.injEq] at hM
  obtain ⟨hM1, hM2, hM3⟩ := hM
  have hG0 : Good ⟨pt, k1, [⟨ann, -(bo : Int) * 365 * 1440⟩, ⟨[98, 111, 98], 0⟩]⟩ (se : Nat) ⟨a3, pa, []⟩ 0 10 := by
    refine ⟨i3.more (by omega), (by rw [hM1]; exact n5), (by rw [hM2]), (by rw [hM2]), (by rw [hM2]; exact Nat.le_refl _), (fun c hc => by rw [hM2] at hc; cases hc), (by rw [hM2]; exact Nat.le_refl _), Nat.le_refl _, (fun g hg => by cases hg), (fun e he => ?_), (fun g hg => by cases hg), (fun i j hi _ _ => absurd hi (by simp))⟩
    simp only at he
    rw [hM1, n4, hB2] at he
    cases he
  have c0 : (0 : Int) ≤ (pt : Int) := by omega
  have c7 : (pt : Int) ≤ 7 := by omega
  obtain ⟨R, hrun, hG, hD⟩ := sRun_ex (con := ⟨pt, k1, [⟨ann, -(bo : Int) * 365 * 1440⟩, ⟨[98, 111, 98], 0⟩]⟩) (se := (se : Nat)) (mi := (mi : Nat)) c0 c7 (bo := -(bo : Int) * 365 * 1440) rfl (by omega) (by omega) (by omega) (by omega) K j8 0 10 ⟨a3, pa, []⟩ d8 hG0 (by omega) (by omega)
  refine ⟨_, R.2, ?_, hD, fun d k => Scene_walk l i h q0 j0 sd j1 mi j2 pt j3 bo j4 ga j5 no j6 se j7 K j8 a1 a2 a3 k1 k2 e1 e2 e3 pa _ h0 h1 h2 h3 h4 h5 h6 h7 h8 h9 h10 h11 rfl (by omega) (by omega) (by omega) (by omega) hG0 R.1 R.2 hrun d k⟩
  refine ⟨⟨se, { hG with ain := hG.ain.more (by omega), cl := Nat.le_trans hG.cl (by omega), th := Nat.le_trans hG.th (by omega), gl := Nat.le_trans hG.gl (by omega) }, by omega, by omega⟩, ?_⟩
  rw [rqB_iff]
  simp only
  omega
end
end Go.Proofs.YtemmlldpmgfblaaGreatDoor
