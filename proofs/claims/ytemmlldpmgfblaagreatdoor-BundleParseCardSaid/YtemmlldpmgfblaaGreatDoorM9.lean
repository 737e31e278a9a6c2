/- Texts U8, U10, U11, U12, U13, M9, U14, U16, O1, O2, O3, O6, joined. -/
import Derived.Test.YtemmlldpmgfblaaGreatDoorM8

namespace Go.Proofs.YtemmlldpmgfblaaGreatDoor
open Go.Ab
attribute [local irreducible] Go.Ab.tyAV Go.Ab.aw Go.Ab.aops Go.Ab.kReg Go.Ab.aThen Go.Ab.aBlk Go.Ab.acond Go.Ab.aguard Go.Ab.astep Go.Ab.AStepX Go.Ab.aRet
attribute [local irreducible] shaG
section
variable [W : W32]
def holdP (h : List UInt8) : Pr := ⟨6, 0, 0, 0, h, 0⟩
def grantS (a : Alg) (c : Co) (t : List UInt8) (holder : List UInt8) (minute : Int) : Alg × Di × Nat :=
 if nameB holder = false then (alg0, di0, 7) else if minute < 0 ∨ 67108864 < minute then (alg0, di0, 1) else
 if (openT a c t).2.2 ≠ 0 then (alg0, di0, (openT a c t).2.2) else if (findP c.ps holder).2 = false then (alg0, di0, 12) else
 if ageS (findP c.ps holder).1.born minute < (openT a c t).2.1.least ∨ (openT a c t).2.1.most < ageS (findP c.ps holder).1.born minute then (alg0, di0, 25) else
 if (macS a (openT a c t).1 (grantM t)).2.2 = 0 then restrS (macS a (openT a c t).1 (grantM t)).1 ⟨t, [], (macS a (openT a c t).1 (grantM t)).2.1⟩ (holdP holder) else (alg0, di0, (macS a (openT a c t).1 (grantM t)).2.2)
theorem grantS_in {a : Alg} {m : Nat} (h : AlgIn a m) (c : Co) (t holder : List UInt8) (minute : Int) : AlgIn (grantS a c t holder minute).1 (m + 2) := by
 unfold grantS
 repeat' split
 all_goals first | exact alg0_in _ | exact restrS_in (macS_in h _ _) _ _
set_option maxHeartbeats 1000000 in
theorem refGrant_spec (a : Alg) (m : Nat) (ha : AlgIn a m) (hm : m ≤ 800000) (c : Co) (hc : c.ps.length ≤ 1000000) (t : List UInt8) (ht : t.length ≤ 100000) (holder : List UInt8) (hh : holder.length ≤ 100000) (minute : Int) (k : Nat) :
  ACall Tryz.prog 32 [algAV a, concAV c, .slice none (t.map byteAV), strAV holder, .lit (.int .i64 minute)] k [] (mdAV (grantS a c t holder minute)) [] := by
 have hnv : strAV holder = .lit (.string ⟨holder.toArray⟩) := rfl
 have c1 := Name_spec holder (by omega)
 unfold grantS
 cases hn : nameB holder with
 | false =>
  rw [if_pos rfl]
  rw [hn] at c1
  unfold mdAV
  simp only [alg0_eq, di0_eq]
  clear ha
  refine Bd Tryz.func32 Tryz.ntmps32 fun σ N hp hpn hk hkn hfree => ?_
  have hcs := And.intro c1 True.intro
  clear c1
  refine Wk ?_
  exact WD
 | true =>
  rw [if_neg (by simp)]
  rw [hn] at c1
  by_cases h1 : minute < 0
  ·rw [if_pos (.inl h1)]
   unfold mdAV
   simp only [alg0_eq, di0_eq]
   clear ha
   refine Bd Tryz.func32 Tryz.ntmps32 fun σ N hp hpn hk hkn hfree => ?_
   have hcs := And.intro c1 True.intro
   clear c1
   refine Wk ?_
   exact WD
  by_cases h2 : 67108864 < minute
  ·rw [if_pos (.inr h2)]
   unfold mdAV
   simp only [alg0_eq, di0_eq]
   clear ha
   refine Bd Tryz.func32 Tryz.ntmps32 fun σ N hp hpn hk hkn hfree => ?_
   have hcs := And.intro c1 True.intro
   clear c1
   refine Wk ?_
   exact WD
  rw [if_neg (by omega)]
  have c2 := refOpenT_spec a m ha (by omega) c t ht
  generalize hX : openT a c t = X at *
  obtain ⟨kt, te, e1'⟩ := X
  unfold moAV at c2
  simp only at c2 ⊢
  by_cases he : e1' = 0
  ·subst he
   rw [if_neg (by simp)]
   obtain ⟨pa, ck, ps⟩ := c
   simp only at hc c2 ⊢
   have c3 := refFind_spec pa ck ps holder hc
   generalize findP ps holder = Y at *
   obtain ⟨pe, ok⟩ := Y
   simp only at c3 ⊢
   cases ok with
   | false =>
    rw [if_pos rfl]
    unfold mdAV
    simp only [alg0_eq, di0_eq]
    clear ha hX
    refine Bd Tryz.func32 Tryz.ntmps32 fun σ N hp hpn hk hkn hfree => ?_
    have hcs := And.intro c1 (And.intro c2 (And.intro c3 True.intro))
    clear c1 c2 c3
    refine Wk ?_
    exact WD
   | true =>
    rw [if_neg (by simp)]
    obtain ⟨pn, pb⟩ := pe
    have c4 := refAge_spec pn pb minute
    simp only
    generalize ageS pb minute = A at *
    obtain ⟨x, y⟩ := te
    simp only [teAV] at c2
    simp only
    by_cases h3 : A < x
    ·rw [if_pos (.inl h3)]
     unfold mdAV
     simp only [alg0_eq, di0_eq]
     clear ha hX
     refine Bd Tryz.func32 Tryz.ntmps32 fun σ N hp hpn hk hkn hfree => ?_
     have hcs := And.intro c1 (And.intro c2 (And.intro c3 (And.intro c4 True.intro)))
     clear c1 c2 c3 c4
     refine Wk ?_
     exact WD
    by_cases h4 : y < A
    ·rw [if_pos (.inr h4)]
     unfold mdAV
     simp only [alg0_eq, di0_eq]
     clear ha hX
     refine Bd Tryz.func32 Tryz.ntmps32 fun σ N hp hpn hk hkn hfree => ?_
     have hcs := And.intro c1 (And.intro c2 (And.intro c3 (And.intro c4 True.intro)))
     clear c1 c2 c3 c4
     refine Wk ?_
     exact WD
    rw [if_neg (by rintro (h | h); · exact h3 h
                   ·exact h4 h)]
    have c5 := refGrantM_spec t (by omega)
    have c6 := Mac_spec a kt (grantM t) (by have := ha.ml; omega) ha.mm
    have hin := macS_in ha kt (grantM t)
    generalize macS a kt (grantM t) = Z at *
    obtain ⟨a1, t1, e2'⟩ := Z
    generalize grantM t = M at *
    unfold mkAV at c6
    simp only at c6 hin ⊢
    by_cases h5 : e2' = 0
    ·subst h5
     rw [if_pos rfl]
     have c7 := refRestr_spec a1 (m + 1) hin (by omega) ⟨t, [], t1⟩ (by simp) (holdP holder) ⟨by simp [holdP], by simp [holdP], by simp only [holdP]; have := nameB_len hn; omega⟩
     generalize restrS a1 ⟨t, [], t1⟩ (holdP holder) = R at *
     obtain ⟨a2, d2, e3'⟩ := R
     unfold mdAV at *
     simp only [diAV, holdP, prAV, List.map_nil] at c7
     simp only
     clear ha hX hin
     have hd2 : diAV d2 = .agg [.slice none (d2.ticket.map byteAV), .slice none (d2.conds.map prAV), tagAV d2.tag] := rfl
     refine Bd Tryz.func32 Tryz.ntmps32 fun σ N hp hpn hk hkn hfree => ?_
     have hcs := And.intro c1 (And.intro c2 (And.intro c3 (And.intro c4 (And.intro c5 (And.intro c6 (And.intro c7 True.intro))))))
     clear c1 c2 c3 c4 c5 c6 c7
     refine Wk ?_
     exact WD
    ·rw [if_neg h5]
     have h5i : ((e2' : Int) != 0) = true := by simp; omega
     unfold mdAV
     simp only [alg0_eq, di0_eq]
     clear ha hX hin
     refine Bd Tryz.func32 Tryz.ntmps32 fun σ N hp hpn hk hkn hfree => ?_
     have hcs := And.intro c1 (And.intro c2 (And.intro c3 (And.intro c4 (And.intro c5 (And.intro c6 True.intro)))))
     clear c1 c2 c3 c4 c5 c6
     refine Wk ?_
     exact WD
  ·rw [if_pos he]
   have h1i : ((e1' : Int) != 0) = true := by simp; omega
   unfold mdAV
   simp only [alg0_eq, di0_eq]
   clear ha hX
   refine Bd Tryz.func32 Tryz.ntmps32 fun σ N hp hpn hk hkn hfree => ?_
   have hcs := And.intro c1 (And.intro c2 True.intro)
   clear c1 c2
   refine Wk ?_
   exact WD
end

def firC (p : Pr) : Ca := ⟨false, p, 0, [], []⟩
section
variable [W : W32]
def narS (a : Alg) (p : Pa) : List Pr → Alg × Pa × Nat
 | [] => (a, p, 0)
 | x :: r => if (attS a p (firC x)).2.2 = 0 then narS (attS a p (firC x)).1 (attS a p (firC x)).2.1 r else (alg0, pa0, (attS a p (firC x)).2.2)
theorem attS_len {a : Alg} {p : Pa} {c : Ca} : (attS a p c).2.1.cavs.length ≤ p.cavs.length + 1 := by
 unfold attS
 split
 ·simp [pa0]
 ·split
  ·simp [pa0]
  ·split
   ·simp
   ·simp [pa0]
theorem attS_bad {a : Alg} {p : Pa} {c : Ca} (h : (attS a p c).2.2 ≠ 0) : attS a p c = (alg0, pa0, (attS a p c).2.2) := by
 unfold attS at h ⊢
 split
 ·rfl
 ·split
  ·rfl
  ·rename_i h1 h2
   rw [if_neg h1, if_neg h2] at h
   split
   ·rename_i h3; rw [if_pos h3] at h; exact absurd rfl h
   ·rfl
set_option maxHeartbeats 2000000 in
theorem Narrow_spec (a : Alg) (m : Nat) (ha : AlgIn a m) (p : Pa) (l : List Pr) (hm : m + 2 * l.length ≤ 800000) (hpl : p.cavs.length + l.length ≤ 10000) (hpk : ∀ x ∈ l, PrOk x) (k : Nat) :
  ACall Tryz.prog 106 [algAV a, paAV p, .slice none (l.map prAV)] k [] (mpAV (narS a p l)) [] := by
 obtain ⟨R, hR⟩ : ∃ R, narS a p l = R := ⟨_, rfl⟩
 rw [hR]
 obtain ⟨R1, R2, R3⟩ := R
 have hdr : l.drop 0 = l := rfl
 unfold mpAV
 simp only
 have g0 : (0 : Nat) = 0 → narS a p (l.drop 0) = (R1, R2, R3) := fun _ => hR
 have g1 : (0 : Nat) ≠ 0 → (R1, R2, R3) = ((alg0, pa0, (0 : Nat)) : Alg × Pa × Nat) ∧ a = alg0 ∧ p = pa0 := fun h => absurd rfl h
 refine Bd Tryz.func106 Tryz.ntmps106 fun σ N hp hpn hk hkn hfree => ?_
 refine Wk ?_
 refine go_loopF mixed (by kernel_rfl) [9, 10, 11, 12, 13, 14, 15, 16, 17, 18, 19, 20, 21, 22, 23, 24, 25, 26, 27, 28, 29, 30, 31, 32] [N, N+1, N+2, N+3] (fun m_ s_ σ_ n_ => ∃ (u : Nat) (A : Alg) (Q : Pa) (e : Nat), m_ = l.length - u ∧ s_ 10 = .lit (.int .i64 u) ∧ s_ 9 = .lit (.int .i64 (e : Nat)) ∧ σ_ (N) = .box 36 (algAV A) ∧ σ_ (N+1) = .box 44 (paAV Q) ∧ σ_ (N+2) = .box 36 (.agg [.lit (.bool false), tagAV zeroTag, .lit (.int .i64 0), .nils, .nils]) ∧ σ_ (N+3) = .box 44 (.agg [.lit (.int .i64 0), .lit (.int .i64 0), .nils, tagAV zeroTag]) ∧ (u ≤ l.length) ∧ (AlgIn A (m + 2 * u)) ∧ (Q.cavs.length ≤ p.cavs.length + u) ∧ (e = 0 → narS A Q (l.drop u) = (R1, R2, R3)) ∧ (e ≠ 0 → (R1, R2, R3) = (alg0, pa0, e) ∧ A = alg0 ∧ Q = pa0)) ⟨_, 0, a, p, 0, rfl, WF, WF, WF, WF, WF, WF, WC, WC, WC, WC, WC⟩ ?_
 intro m_1 s_1 σ_1 n_1 hs_1 hf_1 hn_1 hI_1
 obtain ⟨u, A, Q, e, hm_1, h1_10, h1_9, e1_0, e1_1, e1_2, e1_3, hu, hA, hQ, hg, hg2⟩ := hI_1
 have h1_2 := KS hs_1 2
 have h1_3 := KS hs_1 3
 have h1_4 := KS hs_1 4
 have h1_6 := KS hs_1 6
 have h1_7 := KS hs_1 7
 have h1_8 := KS hs_1 8
 have hlow := KL (N := N) (σ := σ) hf_1
 clear hR hdr g0 g1
 by_cases he : e = 0
 ·subst he
  have hg := hg rfl
  clear hg2
  by_cases hul : u = l.length
  ·subst hul
   rw [List.drop_length] at hg
   simp only [narS, Prod.mk.injEq] at hg
   obtain ⟨rfl, rfl, rfl⟩ := hg
   clear hpk hA
   refine Wk ?_
   exact WD
  ·have hu1 : u < l.length := by omega
   rw [List.drop_eq_getElem_cons hu1, narS] at hg
   have hz1 := hpk _ (List.getElem_mem hu1)
   obtain ⟨z, hz⟩ : ∃ z, l[u] = z := ⟨_, rfl⟩
   rw [hz] at hg hz1
   have c1 := refAtt_spec A (m + 2 * u) hA (by omega) Q (by omega) (firC z) hz1
   have hin := attS_in hA Q (firC z)
   have hln := attS_len (a := A) (p := Q) (c := firC z)
   have hbd := attS_bad (a := A) (p := Q) (c := firC z)
   generalize attS A Q (firC z) = X at *
   obtain ⟨a1, p1, e1'⟩ := X
   simp only at hg hin hln hbd
   unfold mpAV firC caAV at c1
   simp only [List.map_nil] at c1
   have hin2 : AlgIn a1 (m + 2 * (u + 1)) := hin.more (by omega)
   have hq1 : e1' = 0 → narS a1 p1 (l.drop (u + 1)) = (R1, R2, R3) := fun h => by rw [if_pos h] at hg; exact hg
   have hq2 : e1' ≠ 0 → (R1, R2, R3) = (alg0, pa0, e1') ∧ a1 = alg0 ∧ p1 = pa0 := fun h => by
    rw [if_neg h] at hg
    have := hbd h
    simp only [Prod.mk.injEq] at this
    exact ⟨hg.symm, this.1, this.2.1⟩
   have hln2 : p1.cavs.length ≤ p.cavs.length + (u + 1) := by omega
   have hcs := And.intro c1 True.intro
   clear c1 hpk hg hin hbd hA hln
   refine Wk ?_
   exact ⟨WS, WG, WN, _, (show l.length - (u + 1) < m_1 by omega), u + 1, a1, p1, e1', rfl, WF, WF, WF, WF, WF, WF, WC, WC, WC, WC, WC⟩
 ·obtain ⟨h1, rfl, rfl⟩ := hg2 he
  simp only [Prod.mk.injEq] at h1
  obtain ⟨rfl, rfl, rfl⟩ := h1
  have hei : ((R3 : Int) == 0) = false := by rw [beq_eq_false_iff_ne]; omega
  have hei2 : ((R3 : Int) != 0) = true := by simp; omega
  clear hg hg2 hA hpk
  simp only [alg0_eq, pa0_eq] at *
  by_cases hul : u < l.length
  ·have huli : (u : Int) < (l.length : Int) := by omega
   refine Wk ?_
   exact WD
  ·have huli : ¬ (u : Int) < (l.length : Int) := by omega
   refine Wk ?_
   exact WD
end

section
variable [W : W32]
theorem nodeS_ok {a : Alg} {m : Nat} (h : AlgIn a m) (hm : m ≤ 60000) (key : Tg) {msg : List UInt8} (hl : msg.length ≤ 4096) : (macS a key msg).2.2 = 0 ∧ (macS (macS a key msg).1 (macS a key msg).2.1 nodeB).2.2 = 0 ∧ nodeS a key msg = ((macS (macS a key msg).1 (macS a key msg).2.1 nodeB).1, (macS a key msg).2.1, 0) := by
 have h1 : (macS a key msg).2.2 = 0 := macS_ok key hl (by have := h.ml; omega)
 have h2 : (macS (macS a key msg).1 (macS a key msg).2.1 nodeB).2.2 = 0 := macS_ok _ (by decide) (by have := (macS_in h key msg).ml; omega)
 exact ⟨h1, h2, nodeS_3 h1 h2⟩
theorem nodeS_keeps {a : Alg} {m : Nat} (h : AlgIn a m) (hm : m ≤ 60000) (key : Tg) {msg : List UInt8} (hl : msg.length ≤ 4096) : (nodeS a key msg).2.2 = 0 ∧ (nodeS a key msg).1.free = a.free ∧ (nodeS a key msg).1.fresh = a.fresh ∧ (nodeS a key msg).1.boxes = a.boxes := by
 obtain ⟨h1, h2, h3⟩ := nodeS_ok h hm key hl
 obtain ⟨a1, _, a3, a4⟩ := macS_free h1
 obtain ⟨b1, _, b3, b4⟩ := macS_free h2
 rw [h3]
 exact ⟨rfl, b1.trans a1, b3.trans a3, b4.trans a4⟩
theorem AlgOk.node {a : Alg} {m : Nat} (ok : AlgOk a) (h : AlgIn a m) (hm : m ≤ 60000) (key : Tg) {msg : List UInt8} (hl : msg.length ≤ 4096) : AlgOk (nodeS a key msg).1 := by
 obtain ⟨h1, h2, h3⟩ := nodeS_ok h hm key hl
 rw [h3]
 exact (ok.mac key msg).mac _ _
theorem attS_ok {a : Alg} {m : Nat} (h : AlgIn a m) (hm : m ≤ 60000) {p : Pa} {c : Ca} (hc : cavB c = true) (hl : p.cavs.length < 64) (ht : c.third = true → thirdsS p.cavs < 8) :
  attS a p c = ((nodeS a p.tag (cavM c)).1, ⟨p.epoch, p.serial, p.cavs ++ [c], (nodeS a p.tag (cavM c)).2.1⟩, 0) := by
 have h1 := (nodeS_keeps h hm p.tag (msg := cavM c) (by have := cavM_len c; omega)).1
 unfold attS
 rw [if_neg (by rw [hc]; simp), if_neg (by rintro (h | ⟨h, h'⟩); · omega
                                           ·have := ht h; omega), if_pos h1]
theorem restrS_ok {a : Alg} {m : Nat} (h : AlgIn a m) (hm : m ≤ 60000) {d : Di} {p : Pr} (hp : predB p = true) (hk : p.kind ≠ 7) (hl : d.conds.length < 8) :
  (macS a d.tag (condM p)).2.2 = 0 ∧ restrS a d p = ((macS a d.tag (condM p)).1, ⟨d.ticket, d.conds ++ [p], (macS a d.tag (condM p)).2.1⟩, 0) := by
 have h1 : (macS a d.tag (condM p)).2.2 = 0 := macS_ok _ (by have := condM_len p; omega) (by have := h.ml; omega)
 refine ⟨h1, ?_⟩
 unfold restrS
 rw [if_neg (by rw [hp]; simp), if_neg hk, if_neg (by omega), if_pos h1]
theorem blankS_ok {a : Alg} {m : Nat} (h : AlgIn a m) (hm : m ≤ 60000) {c : Co} {t : Te} (ht : teB t = true) (h0 : 0 ≤ c.party) (h7 : c.party ≤ 7) :
  keyS a = ({ a with fresh := a.fresh + 1 }, if a.free then symT 107 (a.fresh + 1) else derT a.seed (a.fresh + 1), 0) ∧ (sealS (keyS a).1 c.key (keyS a).1.fresh (plainT (keyS a).2.1 t)).2.2 = 0 ∧
  blankS a c t = ((sealS (keyS a).1 c.key (keyS a).1.fresh (plainT (keyS a).2.1 t)).1, ⟨c.party, (keyS a).2.1, (sealS (keyS a).1 c.key (keyS a).1.fresh (plainT (keyS a).2.1 t)).2.1⟩, 0) := by
 have hk := keyS_ok (a := a) (by have := h.f1; omega)
 have h2 : (sealS (keyS a).1 c.key (keyS a).1.fresh (plainT (keyS a).2.1 t)).2.2 = 0 := by
  refine sealS_ok _ ?_ ?_ (by have := plainT_len (keyS a).2.1 t ht; omega) ?_
  ·rw [hk]; have := h.f0; simp only; omega
  ·rw [hk]; have := h.f1; simp only; omega
  ·rw [hk]; have := h.bl; simp only; omega
 refine ⟨hk, h2, ?_⟩
 unfold blankS
 rw [if_neg (by rintro (h | h | h); · rw [ht] at h; cases h
                ·omega
                ·omega), if_pos (by rw [hk]), if_pos h2]
theorem sealS_box {a : Alg} (ok : AlgOk a) {key : Tg} {nonce : Int} {plain : List UInt8} (h : (sealS a key nonce plain).2.2 = 0) : (sealS a key nonce plain).2.1.length = plain.length + 40 := by
 unfold sealS at h ⊢
 split at h
 ·cases h
 ·rename_i h1
  split at h
  ·cases h
  ·rename_i h2
   rw [if_neg h1, if_neg h2]
   split at h
   ·rename_i b hb
    obtain ⟨e, he, k1, k2, k3, k4⟩ := boxL_mem hb
    simp only
    rw [← k4, ← k3]
    cases hfr : a.free with
    | true =>
     obtain ⟨i, hi, rfl⟩ := List.getElem_of_mem he
     rw [ok.bf hfr i hi, List.length_append, List.length_replicate, (symT _ _).2]; omega
    | false => rw [ok.bn hfr e he, sealB_len]
   ·split at h
    ·cases h
    ·rename_i h3
     rw [if_neg h3]
     simp only
     unfold sealN
     split
     ·rw [List.length_append, List.length_replicate, (symT _ _).2]; omega
     ·rw [sealB_len]
theorem addS_ok {a : Alg} {m : Nat} (ok : AlgOk a) (h : AlgIn a m) (hm : m ≤ 50000) {p : Pa} {b : Bl} (_hl : p.cavs.length < 64) (_ht : thirdsS p.cavs < 8) (b0 : 0 ≤ b.party) (b7 : b.party ≤ 7) (t1 : 1 ≤ b.ticket.length) (t2 : b.ticket.length ≤ 1024) :
  (macS a p.tag (sealM b.ticket)).2.2 = 0 ∧ (sealS (macS a p.tag (sealM b.ticket)).1 (macS a p.tag (sealM b.ticket)).2.1 0 b.key.1).2.2 = 0 ∧
  cavB ⟨true, zeroPr, b.party, b.ticket, (sealS (macS a p.tag (sealM b.ticket)).1 (macS a p.tag (sealM b.ticket)).2.1 0 b.key.1).2.1⟩ = true ∧
  addS a p b = attS (sealS (macS a p.tag (sealM b.ticket)).1 (macS a p.tag (sealM b.ticket)).2.1 0 b.key.1).1 p ⟨true, zeroPr, b.party, b.ticket, (sealS (macS a p.tag (sealM b.ticket)).1 (macS a p.tag (sealM b.ticket)).2.1 0 b.key.1).2.1⟩ := by
 have h1 : (macS a p.tag (sealM b.ticket)).2.2 = 0 := macS_ok _ (by simp [sealM]; omega) (by have := h.ml; omega)
 have hin := macS_in h p.tag (sealM b.ticket)
 have h2 : (sealS (macS a p.tag (sealM b.ticket)).1 (macS a p.tag (sealM b.ticket)).2.1 0 b.key.1).2.2 = 0 := sealS_ok _ (by omega) (by omega) (by rw [b.key.2]; decide) (by have := hin.bl; omega)
 refine ⟨h1, h2, ?_, by unfold addS; rw [if_pos h1, if_pos h2]⟩
 have hb := sealS_box (ok.mac _ _) h2
 obtain ⟨n, hn⟩ := Int.eq_ofNat_of_zero_le b0
 rw [hn]
 refine (CV.third n (by omega) _ _ ⟨t1, t2⟩ ?_).ok
 rw [b.key.2] at hb
 omega
omit W in
theorem age_ok {b mi : Int} (h0 : 0 ≤ mi) (h1 : mi ≤ 10000) (h2 : -60000000 ≤ b) (h3 : b ≤ 0) : 0 ≤ ageS b mi ∧ ageS b mi ≤ 150 := by
 unfold ageS
 split
 ·omega
 ·split <;> omega
end

def PRD (l : List Int) (j : Nat) (r : Bool) (p : Pr) (j1 : Nat) : Prop := predB p = true ∧ PrOk p ∧ (r = false → p.kind ≠ 7) ∧ Dk l j1 ∧ ∀ d k, ACall Tryz.prog 50 [.ptr d [] 0, .lit (.bool r)] k [(d, deckBox l j)] (prAV p) [(d, deckBox l j1)]
theorem PRD_ex {l : List Int} {j : Nat} (h : Dk l j) (r : Bool) : ∃ p j1, PRD l j r p j1 := by
 obtain ⟨p, j1, h1, h2, h3, h4, h5⟩ := Predicate_ex l j h r
 exact ⟨p, j1, h1, h2, h3, h4, h5⟩
structure Ss where
 A : Alg
 p : Pa
 gs : List Di
def ann : List UInt8 := [97, 110, 110]
section
variable [W : W32]
def rRun (l : List Int) : Nat → Nat → Alg → Di → (Alg × Di × Nat) → Prop
 | 0, j, A, g, R => R = (A, g, j)
 | f + 1, j, A, g, R => ∃ p j1, PRD l j false p j1 ∧ rRun l f j1 (restrS A g p).1 (restrS A g p).2.1 R
def BL (S : Ss) (con : Co) : Alg × Bl × Nat := blankS S.A con ⟨0, 150⟩
def AD (S : Ss) (con : Co) : Alg × Pa × Nat := addS (BL S con).1 S.p (BL S con).2.1
def GR (S : Ss) (con : Co) (mi : Int) : Alg × Di × Nat := grantS (AD S con).1 con (BL S con).2.1.ticket ann mi
def sRun (l : List Int) (con : Co) (mi : Int) : Nat → Nat → Ss → (Ss × Nat) → Prop
 | 0, j, S, R => R = (S, j)
 | f + 1, j, S, R => ((nextD l j 4).1 ≠ 0 → ∃ p j1, PRD l (nextD l j 4).2 true p j1 ∧ sRun l con mi f j1 ⟨(narS S.A S.p [p]).1, (narS S.A S.p [p]).2.1, S.gs⟩ R) ∧
  ((nextD l j 4).1 = 0 → ∃ R2, rRun l (nextD l (nextD l j 4).2 3).1 (nextD l (nextD l j 4).2 3).2 (GR S con mi).1 (GR S con mi).2.1 R2 ∧ sRun l con mi f R2.2.2 ⟨R2.1, (AD S con).2.1, S.gs ++ [R2.2.1]⟩ R)
structure DiV (g : Di) : Prop where
 t1 : 1 ≤ g.ticket.length
 t2 : g.ticket.length ≤ 200
 cl : g.conds.length ≤ 3
 cv : ∀ p ∈ g.conds, predB p = true ∧ PrOk p ∧ p.kind ≠ 7
structure Good (con : Co) (se : Int) (S : Ss) (n m : Nat) : Prop where
 ain : AlgIn S.A m
 ok : AlgOk S.A
 ep : S.p.epoch = 2
 es : S.p.serial = se
 cl : S.p.cavs.length ≤ n
 cv : ∀ c ∈ S.p.cavs, cavB c = true ∧ PrOk c.first ∧ c.ticket.length ≤ 200 ∧ c.box.length ≤ 200
 th : thirdsS S.p.cavs ≤ n
 gl : S.gs.length ≤ n
 gv : ∀ g ∈ S.gs, DiV g
 nf : ∀ e ∈ S.A.boxes, e.nonce ≤ S.A.fresh
 gb : ∀ g ∈ S.gs, ∃ e ∈ S.A.boxes, e.box = g.ticket ∧ 1 ≤ e.nonce
 gd : ∀ i j (hi : i < S.gs.length) (hj : j < S.gs.length), (S.gs[i]).ticket = (S.gs[j]).ticket → i = j
omit W in
theorem thirds_app (l : List Ca) (c : Ca) : thirdsS (l ++ [c]) ≤ thirdsS l + 1 := by
 unfold thirdsS
 have h1 := firsts_len l
 have h2 : (firstsS (l ++ [c])).length ≥ (firstsS l).length := by
  unfold firstsS; rw [List.filter_append, List.map_append, List.length_append]; omega
 rw [List.length_append, List.length_singleton]; omega
theorem Good.nar {con : Co} {se : Int} {S : Ss} {n m : Nat} (h : Good con se S n m) (hm : m ≤ 1000) (hn : n ≤ 6) {p : Pr} (hp : predB p = true) (hp0 : PrOk p) :
  Good con se ⟨(narS S.A S.p [p]).1, (narS S.A S.p [p]).2.1, S.gs⟩ (n + 1) (m + 2) := by
 have hcv : cavB (firC p) = true := (CV.first p hp).ok
 have ha := attS_ok h.ain (by omega) (p := S.p) (c := firC p) hcv (by have := h.cl; omega) (fun hh => by cases hh)
 have hk := nodeS_keeps h.ain (by omega) S.p.tag (msg := cavM (firC p)) (by have := cavM_len (firC p); omega)
 have hin := nodeS_in h.ain S.p.tag (cavM (firC p))
 have hok := h.ok.node h.ain (by omega) S.p.tag (msg := cavM (firC p)) (by have := cavM_len (firC p); omega)
 have hn' : narS S.A S.p [p] = ((nodeS S.A S.p.tag (cavM (firC p))).1, ⟨S.p.epoch, S.p.serial, S.p.cavs ++ [firC p], (nodeS S.A S.p.tag (cavM (firC p))).2.1⟩, 0) := by
  simp only [narS]
  rw [ha]
  rfl
 rw [hn']
 obtain ⟨k1, k2, k3, k4⟩ := hk
 refine ⟨hin, hok, h.ep, h.es, by have := h.cl; simp; omega, fun c hc => ?_, by have := thirds_app S.p.cavs (firC p); have := h.th; simp only; omega, by have := h.gl; simp only; omega, h.gv, fun e he => ?_, fun g hg => ?_, h.gd⟩
 ·rcases List.mem_append.1 hc with hc | hc
  ·exact h.cv c hc
  ·rw [List.mem_singleton.1 hc]; exact ⟨hcv, hp0, by simp [firC], by simp [firC]⟩
 ·simp only at he ⊢
  rw [k4] at he; rw [k3]; exact h.nf e he
 ·simp only
  rw [k4]; exact h.gb g hg
omit W in
theorem readT_plain {k : Tg} {t : Te} (ht : teB t = true) : readT (plainT k t) = (k, t, 0) := by
 obtain ⟨h1, h2, h3⟩ := teB_iff.1 ht
 obtain ⟨x, y⟩ := t
 simp only at h1 h2 h3
 obtain ⟨x, rfl⟩ := Int.eq_ofNat_of_zero_le h1
 obtain ⟨y, rfl⟩ := Int.eq_ofNat_of_zero_le (show 0 ≤ y by omega)
 have hp : plainT k ⟨(x : Nat), (y : Nat)⟩ = k.1 ++ (leb x ++ leb y) := rfl
 rw [hp]
 have hkl := k.2
 have hlen : (k.1 ++ (leb x ++ leb y)).length = 32 + ((leb x).length + (leb y).length) := by simp [hkl]
 have hu : 0 + 32 ≤ (k.1 ++ (leb x ++ leb y)).length := by omega
 have ht1 : tagR (k.1 ++ (leb x ++ leb y)) 0 = (k, 32, 0) := by
  rw [tagR_ok hu]
  refine Prod.ext (Subtype.ext ?_) rfl
  simp only [List.drop_zero]
  exact List.take_left' hkl
 have hd : (k.1 ++ (leb x ++ leb y)).drop 32 = leb x ++ leb y := List.drop_left' hkl
 have hn1 := numR_at (b := k.1 ++ (leb x ++ leb y)) (u := 32) (n := x) (t := leb y) hd (by omega)
 have hd2 : (k.1 ++ (leb x ++ leb y)).drop (32 + (leb x).length) = leb y ++ [] := by
  rw [← List.drop_drop, hd, List.drop_left, List.append_nil]
 have hn2 := numR_at (b := k.1 ++ (leb x ++ leb y)) (u := 32 + (leb x).length) (n := y) (t := []) hd2 (by omega)
 unfold readT
 rw [ht1, hn1]
 simp only [hn2]
 rw [if_neg (by simp), if_neg (by simp), if_neg (by simp), if_neg (by rw [hlen, ht]; simp; omega)]
theorem sealS_mem {a : Alg} {key : Tg} {nonce : Int} {plain : List UInt8} (h : (sealS a key nonce plain).2.2 = 0) : (∃ e ∈ (sealS a key nonce plain).1.boxes, e.box = (sealS a key nonce plain).2.1 ∧ e.nonce = nonce) ∧ (∀ e ∈ a.boxes, e ∈ (sealS a key nonce plain).1.boxes) ∧ (∀ e ∈ (sealS a key nonce plain).1.boxes, e ∈ a.boxes ∨ e.nonce = nonce) := by
 unfold sealS at h ⊢
 split at h
 ·cases h
 ·rename_i h1
  split at h
  ·cases h
  ·rename_i h2
   rw [if_neg h1, if_neg h2]
   split at h
   ·rename_i b hb
    obtain ⟨e, he, k1, k2, k3, k4⟩ := boxL_mem hb
    exact ⟨⟨e, he, k4, k2⟩, fun _ h => h, fun _ h => .inl h⟩
   ·split at h
    ·cases h
    ·rename_i h3
     rw [if_neg h3]
     refine ⟨⟨_, List.mem_append_right _ (List.mem_singleton.2 rfl), rfl, rfl⟩, fun _ h => List.mem_append_left _ h, fun e he => ?_⟩
     rcases List.mem_append.1 he with he | he
     ·exact .inl he
     ·rw [List.mem_singleton.1 he]; exact .inr rfl
theorem box_ne {a : Alg} (ok : AlgOk a) (hl : a.boxes.length ≤ 900000) {e e' : BoxE} (he : e ∈ a.boxes) (he' : e' ∈ a.boxes) (h : e.box = e'.box) : e.nonce = e'.nonce := by
 cases hfr : a.free with
 | true =>
  obtain ⟨i, hi, rfl⟩ := List.getElem_of_mem he
  obtain ⟨j, hj, rfl⟩ := List.getElem_of_mem he'
  rw [ok.bf hfr i hi, ok.bf hfr j hj] at h
  have := symApp_inj (by omega) (by omega) (by omega) (by omega) h
  obtain rfl : i = j := by omega
  rfl
 | false =>
  have p1 := ok.bp e he
  have p2 := ok.bp e' he'
  rw [ok.bn hfr e he, ok.bn hfr e' he'] at h
  unfold sealB at h
  rw [List.append_assoc, List.append_assoc] at h
  exact eightB_inj p1.2.1 (by omega) p2.2.1 (by omega) (List.append_inj_left h (by rw [eightB_len, eightB_len]))
end

section
variable [W : W32]
theorem rRun_ex {l : List Int} : ∀ (f j : Nat) (A : Alg) (g : Di), Dk l j → ∃ R, rRun l f j A g R
 | 0, j, A, g, _ => ⟨_, rfl⟩
 | f + 1, j, A, g, h => by
  obtain ⟨p, j1, hp⟩ := PRD_ex h false
  obtain ⟨R, hR⟩ := rRun_ex f j1 (restrS A g p).1 (restrS A g p).2.1 hp.2.2.2.1
  exact ⟨R, p, j1, hp, hR⟩
theorem rRun_good {l : List Int} : ∀ (f j : Nat) (A : Alg) (g : Di) (R : Alg × Di × Nat) (m c : Nat), rRun l f j A g R → Dk l j → AlgIn A m → AlgOk A → g.conds.length ≤ c → (∀ p ∈ g.conds, predB p = true ∧ PrOk p ∧ p.kind ≠ 7) → f + c ≤ 7 → m + f ≤ 50000 →
  AlgIn R.1 (m + f) ∧ AlgOk R.1 ∧ R.1.boxes = A.boxes ∧ R.1.fresh = A.fresh ∧ R.1.free = A.free ∧ R.2.1.ticket = g.ticket ∧ R.2.1.conds.length ≤ c + f ∧ (∀ p ∈ R.2.1.conds, predB p = true ∧ PrOk p ∧ p.kind ≠ 7) ∧ Dk l R.2.2
 | 0, j, A, g, R, m, c, hR, hj, ha, ok, hc, hv, _, _ => by
  have hR : R = (A, g, j) := hR
  subst hR
  exact ⟨ha, ok, rfl, rfl, rfl, rfl, hc, hv, hj⟩
 | f + 1, j, A, g, R, m, c, hR, hj, ha, ok, hc, hv, h1, h2 => by
  obtain ⟨p, j1, ⟨p1, p2, p3, p4, _⟩, hR⟩ := hR
  obtain ⟨r1, r2⟩ := restrS_ok ha (by omega) p1 (p3 rfl) (d := g) (by omega)
  obtain ⟨q1, _, q3, q4⟩ := macS_free r1
  rw [r2] at hR
  have := rRun_good f j1 _ _ R (m + 1) (c + 1) hR p4 (macS_in ha _ _) (ok.mac _ _) (by simp; omega) (fun x hx => by
   rcases List.mem_append.1 hx with hx | hx
   ·exact hv x hx
   ·rw [List.mem_singleton.1 hx]; exact ⟨p1, p2, p3 rfl⟩) (by omega) (by omega)
  obtain ⟨k1, k2, k3, k4, k5, k6, k7, k8, k9⟩ := this
  exact ⟨by rw [show m + (f + 1) = m + 1 + f by omega]; exact k1, k2, k3.trans q4, k4.trans q3, k5.trans q1, k6, by omega, k8, k9⟩
theorem Good.thd {con : Co} {se mi : Int} {S : Ss} {n m : Nat} (h : Good con se S n m) (hm : m ≤ 1000) (hn : n ≤ 6) (c0 : 0 ≤ con.party) (c7 : con.party ≤ 7) {bo : Int} (hf : findP con.ps ann = (⟨ann, bo⟩, true)) (b0 : -60000000 ≤ bo) (b1 : bo ≤ 0) (m0 : 0 ≤ mi) (m1 : mi ≤ 10000)
  {l : List Int} {f j : Nat} (hj : Dk l j) (hf2 : f ≤ 2) {R2 : Alg × Di × Nat} (hR : rRun l f j (GR S con mi).1 (GR S con mi).2.1 R2) :
  Good con se ⟨R2.1, (AD S con).2.1, S.gs ++ [R2.2.1]⟩ (n + 1) (m + 12) ∧ Dk l R2.2.2 := by
 obtain ⟨hk, hb2, hB⟩ := blankS_ok h.ain (by omega) (c := con) (t := ⟨0, 150⟩) rfl c0 c7
 have hBL : BL S con = _ := hB
 have okk := h.ok.key
 have ok1 := okk.sealed con.key (keyS S.A).1.fresh (plainT (keyS S.A).2.1 ⟨0, 150⟩)
 have ink := keyS_in h.ain
 have in1 := sealS_in ink con.key (keyS S.A).1.fresh (plainT (keyS S.A).2.1 ⟨0, 150⟩)
 have hpl := plainT_len (keyS S.A).2.1 ⟨0, 150⟩ rfl
 have htl := sealS_box okk hb2
 have hop := open_seal okk (by have := ink.bl; omega) hb2
 obtain ⟨hmem, hold, hnew⟩ := sealS_mem hb2
 obtain ⟨sf1, sf2, sf3, sf4⟩ := sealS_free hb2
 have hkf : (keyS S.A).1.fresh = S.A.fresh + 1 := by rw [hk]
 have hkb : (keyS S.A).1.boxes = S.A.boxes := by rw [hk]
 have hAD : AD S con = addS (BL S con).1 S.p (BL S con).2.1 := rfl
 have hGR : GR S con mi = grantS (AD S con).1 con (BL S con).2.1.ticket ann mi := rfl
 rw [hBL] at hAD hGR
 simp only at hAD hGR
 clear hB hBL
 generalize (keyS S.A).2.1 = kt at *
 have hrd : readT (plainT kt ⟨0, 150⟩) = (kt, ⟨0, 150⟩, 0) := readT_plain rfl
 generalize plainT kt ⟨0, 150⟩ = pl at *
 generalize sealS (keyS S.A).1 con.key (keyS S.A).1.fresh pl = X at *
 obtain ⟨a1, tk, e1⟩ := X
 simp only at *
 have tk1 : 1 ≤ tk.length := by omega
 have tk2 : tk.length ≤ 90 := by omega
 obtain ⟨A1, A2, A3, A4⟩ := addS_ok ok1 in1 (by omega) (p := S.p) (b := ⟨con.party, kt, tk⟩) (by have := h.cl; omega) (by have := h.th; omega) c0 c7 tk1 (by simp only; omega)
 simp only at A1 A2 A3 A4
 rw [A4] at hAD
 have in2 := macS_in in1 S.p.tag (sealM tk)
 have ok2 := ok1.mac S.p.tag (sealM tk)
 have op2 := open_mac A1 con.key tk
 rw [hop] at op2
 obtain ⟨f21, _, f23, f24⟩ := macS_free A1
 generalize macS a1 S.p.tag (sealM tk) = Y at *
 obtain ⟨a2, t2, e2⟩ := Y
 simp only at *
 have in3 := sealS_in in2 t2 0 kt.1
 have ok3 := ok2.sealed t2 0 kt.1
 have op3 := open_mono A2 op2
 obtain ⟨_, s31, s32⟩ := sealS_mem A2
 obtain ⟨f31, _, f33, _⟩ := sealS_free A2
 have bxl := sealS_box ok2 A2
 rw [kt.2] at bxl
 generalize sealS a2 t2 0 kt.1 = Z at *
 obtain ⟨a3, bx, e3⟩ := Z
 simp only at *
 have hat := attS_ok in3 (by omega) (p := S.p) A3 (by have := h.cl; omega) (fun _ => by have := h.th; omega)
 have hcm := cavM_len ⟨true, zeroPr, con.party, tk, bx⟩
 obtain ⟨n1, n2, n3⟩ := nodeS_ok in3 (by omega) S.p.tag (msg := cavM ⟨true, zeroPr, con.party, tk, bx⟩) (by omega)
 obtain ⟨_, k2, k3, k4⟩ := nodeS_keeps in3 (by omega) S.p.tag (msg := cavM ⟨true, zeroPr, con.party, tk, bx⟩) (by omega)
 have in4 := nodeS_in in3 S.p.tag (cavM ⟨true, zeroPr, con.party, tk, bx⟩)
 have ok4 := ok3.node in3 (by omega) S.p.tag (msg := cavM ⟨true, zeroPr, con.party, tk, bx⟩) (by omega)
 have op4 : openS (nodeS a3 S.p.tag (cavM ⟨true, zeroPr, con.party, tk, bx⟩)).1 con.key tk = (pl, 0) := by
  rw [n3]; simp only; rw [open_mac n2, open_mac n1]; exact op3
 rw [hat] at hAD
 clear n1 n2 n3 hat hcm
 generalize (nodeS a3 S.p.tag (cavM ⟨true, zeroPr, con.party, tk, bx⟩)).2.1 = t4 at *
 generalize (nodeS a3 S.p.tag (cavM ⟨true, zeroPr, con.party, tk, bx⟩)).1 = a4 at *
 have hoT : openT a4 con tk = (kt, ⟨0, 150⟩, 0) := by
  unfold openT; rw [op4]; simp only; rw [if_neg (by simp)]; exact hrd
 have hag := age_ok (b := bo) m0 m1 b0 b1
 have hm1 : (macS a4 kt (grantM tk)).2.2 = 0 := macS_ok _ (by simp [grantM]; omega) (by have := in4.ml; omega)
 have hpv : predB (holdP ann) = true := by decide
 have in5 := macS_in in4 kt (grantM tk)
 have ok5 := ok4.mac kt (grantM tk)
 obtain ⟨f51, _, f53, f54⟩ := macS_free hm1
 rw [hAD] at hGR
 have hG2 : grantS a4 con tk ann mi = restrS (macS a4 kt (grantM tk)).1 ⟨tk, [], (macS a4 kt (grantM tk)).2.1⟩ (holdP ann) := by
  unfold grantS
  rw [if_neg (show ¬ nameB ann = false by decide), if_neg (by omega), hoT]
  simp only
  rw [if_neg (by simp), hf]
  simp only
  rw [if_neg (by simp), if_neg (by omega), if_pos hm1]
 simp only at hGR
 rw [hG2] at hGR
 generalize macS a4 kt (grantM tk) = V at *
 obtain ⟨a5, t5, e5⟩ := V
 simp only at *
 obtain ⟨r1, r2⟩ := restrS_ok in5 (by omega) (d := ⟨tk, [], t5⟩) hpv (show (holdP ann).kind ≠ 7 by decide) (by simp)
 simp only at r1 r2
 rw [r2] at hGR
 obtain ⟨f61, _, f63, f64⟩ := macS_free r1
 have in6 := macS_in in5 t5 (condM (holdP ann))
 have ok6 := ok5.mac t5 (condM (holdP ann))
 rw [hGR] at hR
 simp only at hR
 have hrg := rRun_good f j _ _ R2 (m + 8) 1 hR hj (in6.more (by omega)) ok6 (by simp) (fun p hp => by
  simp only [List.nil_append, List.mem_singleton] at hp
  rw [hp]; exact ⟨hpv, ⟨by decide, by decide, by decide⟩, by decide⟩) (by omega) (by omega)
 obtain ⟨g1, g2, g3, g4, g5, g6, g7, g8, g9⟩ := hrg
 obtain ⟨A', g', j'⟩ := R2
 simp only at *
 have hbox : A'.boxes = a3.boxes := by rw [g3, f64, f54, k4]
 have hfre : A'.fresh = S.A.fresh + 1 := by rw [g4, f63, f53, k3, f33, f23, sf3, hkf]
 have hb31 : ∀ e ∈ a1.boxes, e ∈ a3.boxes := fun e he => s31 e (by rw [f24]; exact he)
 have hbS : ∀ e ∈ S.A.boxes, e ∈ a3.boxes := fun e he => hb31 e (hold e (by rw [hkb]; exact he))
 have hf0 := h.ain.f0
 obtain ⟨e0, he0, he01, he02⟩ := hmem
 have hgl := h.gl
 have in3b := in3.bl
 refine ⟨⟨g1.more (by omega), g2, by rw [hAD]; exact h.ep, by rw [hAD]; exact h.es, ?_, fun c hc => ?_, ?_, ?_, fun g hg => ?_, fun e he => ?_, fun g hg => ?_, fun i q hi hq heq => ?_⟩, g9⟩
 ·rw [hAD]; have := h.cl; simp; omega
 ·rw [hAD] at hc
  simp only at hc
  rcases List.mem_append.1 hc with hc | hc
  ·exact h.cv c hc
  ·rw [List.mem_singleton.1 hc]; exact ⟨A3, zeroPr_ok, by simp only; omega, by simp only; omega⟩
 ·rw [hAD]; have := thirds_app S.p.cavs ⟨true, zeroPr, con.party, tk, bx⟩; have := h.th; simp only; omega
 ·simp; omega
 ·simp only at hg
  rcases List.mem_append.1 hg with hg | hg
  ·exact h.gv g hg
  ·rw [List.mem_singleton.1 hg]
   exact ⟨by rw [g6]; exact tk1, by rw [g6]; omega, by omega, g8⟩
 ·simp only at he ⊢
  rw [hbox] at he
  rw [hfre]
  rcases s32 e he with he | he
  ·rw [f24] at he
   rcases hnew e he with he | he
   ·rw [hkb] at he
    have := h.nf e he
    omega
   ·rw [he, hkf]; omega
  ·rw [he]; omega
 ·simp only at hg ⊢
  rw [hbox]
  rcases List.mem_append.1 hg with hg | hg
  ·obtain ⟨e, he, h1, h2⟩ := h.gb g hg
   exact ⟨e, hbS e he, h1, h2⟩
  ·rw [List.mem_singleton.1 hg]
   exact ⟨e0, hb31 e0 he0, by rw [he01, g6], by rw [he02, hkf]; omega⟩
 ·simp only [List.length_append, List.length_singleton] at hi hq
  have key : ∀ i (hi : i < S.gs.length), (S.gs[i]).ticket ≠ tk := fun i hi heq => by
   obtain ⟨e, he, h1, h2⟩ := h.gb _ (List.getElem_mem hi)
   have := box_ne ok3 (by omega) (hbS e he) (hb31 e0 he0) (by rw [h1, he01, heq])
   rw [he02, hkf] at this
   have := h.nf e he
   omega
  rcases Nat.lt_or_ge i S.gs.length with h1 | h1 <;> rcases Nat.lt_or_ge q S.gs.length with h2 | h2
  ·simp only [List.getElem_append_left h1, List.getElem_append_left h2] at heq
   exact h.gd i q h1 h2 heq
  ·obtain rfl : q = S.gs.length := by omega
   simp only [List.getElem_append_left h1, List.getElem_append_right (Nat.le_refl _), Nat.sub_self, List.getElem_singleton, g6] at heq
   exact absurd heq (key i h1)
  ·obtain rfl : i = S.gs.length := by omega
   simp only [List.getElem_append_left h2, List.getElem_append_right (Nat.le_refl _), Nat.sub_self, List.getElem_singleton, g6] at heq
   exact absurd heq.symm (key q h2)
  ·omega
theorem sRun_ex {l : List Int} {con : Co} {se mi : Int} (c0 : 0 ≤ con.party) (c7 : con.party ≤ 7) {bo : Int} (hf : findP con.ps ann = (⟨ann, bo⟩, true)) (b0 : -60000000 ≤ bo) (b1 : bo ≤ 0) (m0 : 0 ≤ mi) (m1 : mi ≤ 10000) :
  ∀ (f j n m : Nat) (S : Ss), Dk l j → Good con se S n m → f + n ≤ 6 → m + 12 * f ≤ 1000 → ∃ R, sRun l con mi f j S R ∧ Good con se R.1 (n + f) (m + 12 * f) ∧ Dk l R.2
 | 0, j, n, m, S, hj, hS, _, _ => ⟨_, rfl, hS, hj⟩
 | f + 1, j, n, m, S, hj, hS, h1, h2 => by
  have d1 := nextD_dk 4 hj
  by_cases hx : (nextD l j 4).1 = 0
  ·have d2 := nextD_dk 3 d1
   have b2 := nextD_lt l (nextD l j 4).2 3 (by omega)
   obtain ⟨R2, hR2⟩ := rRun_ex (nextD l (nextD l j 4).2 3).1 (nextD l (nextD l j 4).2 3).2 (GR S con mi).1 (GR S con mi).2.1 d2
   obtain ⟨hg, hd⟩ := hS.thd (by omega) (by omega) c0 c7 hf b0 b1 m0 m1 d2 (by omega) hR2
   obtain ⟨R, hR, hG, hD⟩ := sRun_ex c0 c7 hf b0 b1 m0 m1 f R2.2.2 (n + 1) (m + 12) _ hd hg (by omega) (by omega)
   refine ⟨R, ⟨fun h => absurd hx h, fun _ => ⟨R2, hR2, hR⟩⟩, ?_, hD⟩
   rw [show n + (f + 1) = n + 1 + f by omega, show m + 12 * (f + 1) = m + 12 + 12 * f by omega]
   exact hG
  ·obtain ⟨p, j1, hp⟩ := PRD_ex d1 true
   have hg := hS.nar (by omega) (by omega) hp.1 hp.2.1
   obtain ⟨R, hR, hG, hD⟩ := sRun_ex c0 c7 hf b0 b1 m0 m1 f j1 (n + 1) (m + 12) _ hp.2.2.2.1 { hg with ain := hg.ain.more (by omega) } (by omega) (by omega)
   refine ⟨R, ⟨fun _ => ⟨p, j1, hp, hR⟩, fun h => absurd h hx⟩, ?_, hD⟩
   rw [show n + (f + 1) = n + 1 + f by omega, show m + 12 * (f + 1) = m + 12 + 12 * f by omega]
   exact hG
end

theorem refNew_spec (fr : Bool) (sd : Tg) (k : Nat) :
  ACall Tryz.prog 67 [.lit (.bool fr), tagAV sd] k [] (algAV ⟨fr, sd, 0, [], []⟩) [] := by
 simp only [algAV, List.map_nil]
 refine Bd Tryz.func67 Tryz.ntmps67 fun σ N hp hpn hk hkn hfree => ?_
 exact WA
section
variable [W : W32]
end

end Go.Proofs.YtemmlldpmgfblaaGreatDoor
