/- Texts X17, X20, joined. -/
import Derived.Test.YtdmjpolnbmoehaaDoorMD1

namespace Go.Proofs.YtdmjpolnbmoehaaDoor
open Go.Ab
attribute [local irreducible] Go.Ab.tyAV Go.Ab.aw Go.Ab.aops Go.Ab.kReg Go.Ab.aThen Go.Ab.aBlk Go.Ab.acond Go.Ab.aguard Go.Ab.astep Go.Ab.AStepX Go.Ab.aRet
attribute [local irreducible] shaG
section
variable [W : W32]
theorem algStep_ok {l : List Int} {i : Nat} {a : Alg} (h : AlgOk a) : AlgOk (algStep l i a).1 := by
 unfold algStep
 split
 ·exact h.key
 ·split
  ·exact h.mac _ _
  ·exact h.sealed _ _ _
theorem algK_ok {l : List Int} : ∀ f i a, AlgOk a → AlgOk (algK l f i a).1
 | 0, _, _, h => h
 | f + 1, _, _, h => algK_ok f _ _ (algStep_ok h)
theorem algD_ok (l : List Int) (i : Nat) : AlgOk (algD l i).1 := algK_ok _ _ _ (.nil _ _ _)
theorem open_other {a : Alg} (ok : AlgOk a) (hl : a.boxes.length ≤ 1000000) (hf : a.free = true) {key other : Tg} {b p : List UInt8} (h : openS a key b = (p, 0)) (hne : other ≠ key) : openS a other b = ([], 14) := by
 unfold openS at h ⊢
 rw [if_pos hf] at h ⊢
 cases ho : openL other b a.boxes with
 | none => rfl
 | some q =>
  exfalso
  cases hk : openL key b a.boxes with
  | none => rw [hk] at h; simp at h
  | some q2 =>
   obtain ⟨e, he, k1, k2, _⟩ := openL_some ho
   obtain ⟨e', he', k1', k2', _⟩ := openL_some hk
   obtain ⟨i, hi, rfl⟩ := List.getElem_of_mem he
   obtain ⟨j, hj, rfl⟩ := List.getElem_of_mem he'
   have h3 := k2.trans k2'.symm
   rw [ok.bf hf i hi, ok.bf hf j hj] at h3
   have h4 := symApp_inj (by omega) (by omega) (by omega) (by omega) h3
   obtain rfl : i = j := by omega
   exact hne (k1.symm.trans k1')
theorem back_ok {a : Alg} {m : Nat} (hin : AlgIn a m) (hm : m ≤ 1000) (ok : AlgOk a) {c : Co} {t : Te} (ht : teB t = true) (h0 : 0 ≤ c.party) (h7 : c.party ≤ 7) :
  ∃ (b : Alg) (kt : Tg) (tk : List UInt8), blankS a c t = (b, ⟨c.party, kt, tk⟩, 0) ∧ AlgIn b (m + 2) ∧ AlgOk b ∧ 1 ≤ tk.length ∧ tk.length ≤ 90 ∧ openT b c tk = (kt, t, 0) ∧
   ∀ c' : Co, a.free = true → c'.key ≠ c.key → openT b c' tk = (zeroTag, te0, 14) := by
 obtain ⟨hk, hb2, hB⟩ := blankS_ok hin (by omega) (c := c) (t := t) ht h0 h7
 have okk := ok.key
 have ok1 := okk.sealed c.key (keyS a).1.fresh (plainT (keyS a).2.1 t)
 have ink := keyS_in hin
 have in1 := sealS_in ink c.key (keyS a).1.fresh (plainT (keyS a).2.1 t)
 have hpl := plainT_len (keyS a).2.1 t ht
 have htl := sealS_box okk hb2
 have hop := open_seal okk (by have := ink.bl; omega) hb2
 have hfr := (sealS_free hb2).1
 have hfk : (keyS a).1.free = a.free := by rw [hk]
 rw [hfk] at hfr
 clear hk
 have hrd : readT (plainT (keyS a).2.1 t) = ((keyS a).2.1, t, 0) := readT_plain ht
 generalize (keyS a).2.1 = kt at *
 generalize plainT kt t = pl at *
 generalize sealS (keyS a).1 c.key (keyS a).1.fresh pl = X at *
 obtain ⟨a1, tk, e1⟩ := X
 simp only at *
 refine ⟨a1, kt, tk, hB, in1.more (by omega), ok1, by omega, by omega, ?_, fun c' hf hne => ?_⟩
 ·unfold openT; rw [hop]; simp only; rw [if_neg (by simp)]; exact hrd
 ·have h14 := open_other ok1 (by have := in1.bl; omega) (hfr.trans hf) hop hne
  unfold openT; rw [h14]; simp
theorem granted {b : Alg} {m : Nat} (hin : AlgIn b m) (hm : m ≤ 1000) {c : Co} {kt : Tg} {t : Te} {tk : List UInt8} (htl : tk.length ≤ 90) (ho : openT b c tk = (kt, t, 0)) {nm : List UInt8} (hnm : nameB nm = true) {p : Pe} (hf : findP c.ps nm = (p, true)) {n : Int} (h0 : 0 ≤ n) (h1 : n ≤ 67108864) :
  (grantS b c tk nm n).2.2 = if ageS p.born n < t.least ∨ t.most < ageS p.born n then 25 else 0 := by
 unfold grantS
 rw [if_neg (by rw [hnm]; simp), if_neg (by omega), ho]
 simp only
 rw [if_neg (by simp), hf]
 simp only
 rw [if_neg (by simp)]
 split
 ·rfl
 ·have hm1 : (macS b kt (grantM tk)).2.2 = 0 := macS_ok _ (by simp [grantM]; omega) (by have := hin.ml; omega)
  have in5 := macS_in hin kt (grantM tk)
  rw [if_pos hm1]
  have hpv : predB (holdP nm) = true := by unfold predB holdP; simp [hnm]
  obtain ⟨r1, r2⟩ := restrS_ok in5 (by omega) (d := ⟨tk, [], (macS b kt (grantM tk)).2.1⟩) hpv (by simp [holdP]) (by simp)
  rw [r2]
theorem unknown {b : Alg} {c : Co} {kt : Tg} {t : Te} {tk : List UInt8} (ho : openT b c tk = (kt, t, 0)) {nm : List UInt8} (hnm : nameB nm = true) {p : Pe} (hf : findP c.ps nm = (p, false)) {n : Int} (h0 : 0 ≤ n) (h1 : n ≤ 67108864) : (grantS b c tk nm n).2.2 = 12 := by
 unfold grantS
 rw [if_neg (by rw [hnm]; simp), if_neg (by omega), ho]
 simp only
 rw [if_neg (by simp), hf]
 simp only
 rw [if_pos trivial]
end

theorem byte_ofNatW {u : Nat} (h : u < 256) : AV.lit (.int .u8 (u : Int)) = byteAV (UInt8.ofNat u) := by
 unfold byteAV
 rw [UInt8.toNat_ofNat', Nat.mod_eq_of_lt h]
section
variable [W : W32]
def OpQ (a : Alg) (c : Co) (t : List UInt8) (g : Nat) : Prop := ∃ r : Tg × Te × Nat,
 (∀ k, ACall Tryd.prog 33 [algAV a, concAV c, .slice none (t.map byteAV)] k [(g, shaG)] (moAV r) []) ∧
 (∀ k, ACall Tryd.prog 34 [algAV a, concAV c, .slice none (t.map byteAV)] k [] (moAV r) [])
theorem OpQ_ex {a : Alg} {m : Nat} (ha : AlgIn a m) (hm : m ≤ 100000) (c : Co) {t : List UInt8} (ht : t.length ≤ 100000) (g : Nat) : OpQ a c t g :=
 ⟨openT a c t, tOpen_spec a m ha (by omega) c t ht g, refOpenT_spec a m ha (by omega) c t ht⟩
set_option maxHeartbeats 16000000 in
theorem TicketOpen_core (xs : List Int) (hx : xs.length ≤ 9223372036854775807) (raw0 plain0 : List UInt8) (at_ : Int) (xb : UInt8) (g k : Nat) :
  ACall Tryd.prog 6 [.slice none (xs.map intAV), .slice none (raw0.map byteAV), .slice none (plain0.map byteAV), .lit (.int .i64 at_), byteAV xb] k [(g, shaG)] (.lit (.bool true)) [] := by
 obtain ⟨m1, raw, q1, q2, q3, q4, q5⟩ := cutB0 200 raw0
 obtain ⟨m2, pln, p1, p2, p3, p4, p5⟩ := cutB0 60 plain0
 have q6 : (if (200 : Int) < (raw0.length : Int) then (200 : Int) else (raw0.length : Int)) = (m1 : Int) := q1
 have p6 : (if (60 : Int) < (plain0.length : Int) then (60 : Int) else (plain0.length : Int)) = (m2 : Int) := p1
 clear q1 p1
 have c1 := New_spec xs
 have hx0 : Dk xs 0 := ⟨hx, Nat.zero_le _⟩
 have c2 := Algebra_spec xs 0 hx0
 have hA := algD_in xs 0
 have hAo := algD_ok xs 0
 have hj0 := algD_dk (l := xs) (i := 0) hx0
 generalize algD xs 0 = X at *
 obtain ⟨A, j0⟩ := X
 simp only at *
 have c3 := Tag_spec xs j0 hj0
 have hj1 := tagD_dk hj0
 generalize tagD xs j0 = TD at *
 obtain ⟨T, j1⟩ := TD
 simp only at c3 hj1
 have c4 := Concession_spec xs j1 T hj1
 have hj2 := concD_dk (t := T) hj1
 obtain ⟨hp0, hp7⟩ : 0 ≤ (concD xs j1 T).1.party ∧ (concD xs j1 T).1.party ≤ 7 := by
  have := nextD_lt xs j1 8 (by omega)
  unfold concD
  simp only
  omega
 generalize concD xs j1 T = CD at *
 obtain ⟨⟨cp, ck, cs⟩, j2⟩ := CD
 simp only at c4 hp0 hp7 hj2
 have c5 := Next_spec xs j2 10 hj2 (by omega) (by omega)
 have hj3 := nextD_dk 10 hj2
 have b3 := nextD_lt xs j2 10 (by omega)
 generalize nextD xs j2 10 = X3 at *
 obtain ⟨x3, j3⟩ := X3
 simp only at c5 hj3 b3
 have c6 := Next_spec xs j3 100 hj3 (by omega) (by omega)
 have hj4 := nextD_dk 100 hj3
 have b4 := nextD_lt xs j3 100 (by omega)
 generalize nextD xs j3 100 = X4 at *
 obtain ⟨x4, j4⟩ := X4
 simp only at c6 hj4 b4
 have hte : teB ⟨(x3 : Int), 10 + (x4 : Int)⟩ = true := by rw [teB_iff]; simp only; omega
 obtain ⟨B, kt, tk, f1, f2, _, f4, f5, _, _⟩ := back_ok hA (by decide) hAo (c := ⟨cp, ck, cs⟩) hte hp0 hp7
 have c7 := refBlank_spec A 5 hA (by decide) ⟨cp, ck, cs⟩ ⟨(x3 : Int), 10 + (x4 : Int)⟩
 rw [f1] at c7
 have c8 := Seal_spec B ck 7 pln (by have := f2.bl; omega) f2.bm
 have i8 := sealS_in f2 ck 7 pln
 have l8 := sealS_lenW f2 ck 7 pln
 generalize sealS B ck 7 pln = Y8 at *
 obtain ⟨B2, oth, e8⟩ := Y8
 simp only at i8 l8
 have c10 := Next_spec xs j4 160 hj4 (by omega) (by omega)
 have hj5 := nextD_dk 160 hj4
 have b5 := nextD_lt xs j4 160 (by omega)
 generalize nextD xs j4 160 = X5 at *
 obtain ⟨x5, j5⟩ := X5
 simp only at c10 hj5 b5
 have c11 := Next_spec xs j5 160 hj5 (by omega) (by omega)
 have b6 := nextD_lt xs j5 160 (by omega)
 generalize nextD xs j5 160 = X6 at *
 obtain ⟨x6, j6⟩ := X6
 simp only at c11 b6
 obtain ⟨K, hK⟩ := kt
 have hw5 : IntKind.u8.wrap (x5 : Int) = x5 := by rw [IntKind.wrap_u8]; omega
 have hw6 : IntKind.u8.wrap (x6 : Int) = x6 := by rw [IntKind.wrap_u8]; omega
 have hyB : List.take 33 (K.map byteAV ++ [.lit (.int .u8 (x5 : Int))]) ++ [.lit (.int .u8 (x6 : Int))] = (K ++ [UInt8.ofNat x5] ++ [UInt8.ofNat x6]).map byteAV := by
  rw [List.take_of_length_le (by rw [List.length_append, List.length_map, hK]; simp), List.map_append, List.map_append, List.map_cons, List.map_nil, List.map_cons, List.map_nil, ← byte_ofNatW (by omega), ← byte_ofNatW (by omega)]
 have hyl : (K ++ [UInt8.ofNat x5] ++ [UInt8.ofNat x6]).length = 34 := by simp [hK]
 generalize K ++ [UInt8.ofNat x5] ++ [UInt8.ofNat x6] = y0 at *
 have g1 := Int.emod_nonneg at_ (show (34 : Int) ≠ 0 by omega)
 have g2 := Int.emod_lt_of_pos at_ (show (0 : Int) < 34 by omega)
 obtain ⟨iy, hiy⟩ := Int.eq_ofNat_of_zero_le g1
 have c12 := Within_spec at_ 34 (by omega) (by omega)
 rw [hiy] at c12
 have hiy2 : iy < y0.length := by omega
 have hsy := set_bytes y0 iy xb
 obtain ⟨y, hy⟩ : ∃ y, y0.set iy xb = y := ⟨_, rfl⟩
 have hyl2 : y.length = 34 := by rw [← hy]; simp [hyl]
 rw [hy] at hsy
 have c13 := Seal_spec B2 ck 8 y (by have := i8.bl; omega) i8.bm
 have i9 := sealS_in i8 ck 8 y
 have l9 := sealS_lenW i8 ck 8 y
 generalize sealS B2 ck 8 y = Y9 at *
 obtain ⟨B3, nea, e9⟩ := Y9
 simp only at i9 l9
 have g3 := Int.emod_nonneg at_ (show (tk.length : Int) ≠ 0 by omega)
 have g4 := Int.emod_lt_of_pos at_ (show (0 : Int) < (tk.length : Int) by omega)
 obtain ⟨iz, hiz⟩ := Int.eq_ofNat_of_zero_le g3
 have c14 := Within_spec at_ tk.length (by omega) (by omega)
 rw [hiz] at c14
 have hiz2 : iz < tk.length := by omega
 have hx8 := x8_eq (tk[iz]) xb
 have hsz := set_bytes tk iz (x8 (tk[iz]) xb)
 obtain ⟨z, hz⟩ : ∃ z, tk.set iz (x8 (tk[iz]) xb) = z := ⟨_, rfl⟩
 have hzl : z.length = tk.length := by rw [← hz]; simp
 rw [hz] at hsz
 obtain ⟨w, hw⟩ : ∃ w, tk[iz] = w := ⟨_, rfl⟩
 rw [hw] at hx8 hsz
 generalize x8 w xb = w2 at *
 have hsz2 : (tk.map byteAV).set iz (AV.lit (.int .u8 (w2.toNat : Int))) = z.map byteAV := hsz
 have hsy2 : (y0.map byteAV).set iy (AV.lit (.int .u8 (xb.toNat : Int))) = y.map byteAV := hsy
 clear hsz hsy hz hy
 obtain ⟨TL, hTL⟩ : ∃ TL : List (List UInt8), TL = [raw, tk, oth, nea, z] := ⟨_, rfl⟩
 have hT5 : TL.length = 5 := by rw [hTL]; rfl
 have hlT : ∀ r r2 : Nat, AV.le (.slice (some r) [.slice none (raw.map byteAV), .slice none (tk.map byteAV), .slice none (oth.map byteAV), .slice none (nea.map byteAV), .slice (some r2) (z.map byteAV)]) (.slice none (TL.map bAV)) := fun r r2 g0 v0 hv0 => by
  rw [hTL]
  exact AV.le_own _ _ g0 v0 (AV.le_sliceS (some r) (.cons (AV.le_refl _) (.cons (AV.le_refl _) (.cons (AV.le_refl _) (.cons (AV.le_refl _) (.cons (AV.le_own _ _) .nil))))) g0 v0 hv0)
 have hTu : ∀ u : Nat, u < 5 → ∃ t : List UInt8, (TL.map bAV)[u]? = some (.slice none (t.map byteAV)) ∧ t.length ≤ 100000 := fun u hu => by
  rw [hTL]
  obtain rfl | rfl | rfl | rfl | rfl : u = 0 ∨ u = 1 ∨ u = 2 ∨ u = 3 ∨ u = 4 := by omega
  ·exact ⟨raw, rfl, by omega⟩
  ·exact ⟨tk, rfl, by omega⟩
  ·exact ⟨oth, rfl, by omega⟩
  ·exact ⟨nea, rfl, by omega⟩
  ·exact ⟨z, rfl, by omega⟩
 have c9 := awake14_spec g
 have hcA : concAV ⟨cp, ck, cs⟩ = .agg [.lit (.int .i64 cp), tagAV ck, .slice none (cs.map persAV)] := rfl
 have hbA : blAV ⟨cp, ⟨K, hK⟩, tk⟩ = .agg [.lit (.int .i64 cp), .agg (K.map byteAV), .slice none (tk.map byteAV)] := rfl
 have htA : teAV ⟨(x3 : Int), 10 + (x4 : Int)⟩ = .agg [.lit (.int .i64 (x3 : Int)), .lit (.int .i64 (10 + (x4 : Int)))] := rfl
 unfold mlAV at c7
 unfold skAV at c8 c13
 simp only at c7 c8 c13
 rw [htA, hbA, hcA] at c7
 rw [hcA] at c4
 have hb34 : byteAV xb = .lit (.int .u8 (xb.toNat : Int)) := rfl
 rw [hb34]
 have hxt := xb.toNat_lt
 have htk : (K.map byteAV).take 32 = K.map byteAV := List.take_of_length_le (by rw [List.length_map]; omega)
 have hs3 : AV.celll (K.map byteAV) = true := celll_bytes K
 have hzi : (tk.map byteAV)[iz]? = some (.lit (.int .u8 (w.toNat : Int))) := by rw [List.getElem?_map, List.getElem?_eq_getElem hiz2, hw]; rfl
 clear f1 f2 hA hAo hx0 hx hj0 hj1 hj2 hj3 hj4 hj5 hp0 hp7 hte hTL htA hbA i8 g1 g2 g3 g4 hiy hiz hb34
 refine Bd Tryd.func6 Tryd.ntmps6 fun σ N hp hpn hk hkn hfree => ?_
 obtain ⟨hd, hdn⟩ := HD0 hp hpn; clear hp hpn
 have M : Mut (N + 55) := ⟨⟩
 have M2 : Mut (N + 90) := ⟨⟩
 have hcs := And.intro c1 (And.intro (c2 (N + 13 + 1)) (And.intro (c3 (N + 13 + 1)) (And.intro (c4 (N + 13 + 1)) (And.intro (c5 (N + 13 + 1)) (And.intro (c6 (N + 13 + 1)) (And.intro c7 (And.intro c8 True.intro)))))))
 clear c1 c2 c3 c4 c5 c6 c7 c8
 refine Wm ?_
 iterate 7 refine Wz ?_
 clear hcs
 have hcs := And.intro (c10 (N + 13 + 1)) (And.intro (c11 (N + 13 + 1)) (And.intro c12 True.intro))
 clear c10 c11 c12
 iterate 2 refine Wz ?_
 refine go_freeze 18 (id := N + 55) (ver := 3) (size := 1) (e := 5) (xs := y.map byteAV) (k := 34) (by simp (disch := omega) [go_sem, *, -List.reduceReplicate]) (by simp (disch := omega) [go_sem, *, -List.reduceReplicate]) (by simp (disch := omega) [go_sem, *, -List.reduceReplicate]) ?_
 clear hcs
 have hcs := And.intro c13 (And.intro c14 True.intro)
 clear c13 c14
 iterate 3 refine Wz ?_
 refine go_freeze 21 (id := N + 90) (ver := 1) (size := 1) (e := 5) (xs := z.map byteAV) (k := tk.length) (by simp (disch := omega) [go_sem, *, -List.reduceReplicate]) (by simp (disch := omega) [go_sem, *, -List.reduceReplicate]) (by simp (disch := omega) [go_sem, *, -List.reduceReplicate]) ?_
 clear hcs M M2
 refine Wk ?_
 refine go_less 120 (by simp (disch := omega) [go_sem, *]; try first | rfl | exact ⟨rfl, rfl⟩) (hlT _ (N + 90)) ?_
 clear hlT
 refine go_loopF mixed (by kernel_rfl) [10, 23, 24, 25, 26, 27, 28, 29, 122, 123, 124, 125, 126, 127, 128, 129, 130, 131, 132, 133, 134, 135, 136, 137, 138, 139, 140, 141, 142, 143, 144, 145, 146, 147, 148, 149, 150, 151, 152, 153, 154, 155] [] (fun m_ s_ σ_ n_ => ∃ (u : Nat), m_ = 5 - u ∧ s_ 122 = .lit (.int .i64 u) ∧ (u ≤ 5)) ⟨_, 0, rfl, WF, WC⟩ ?_
 intro m_1 s_1 σ_1 n_1 hs_1 hf_1 hn_1 hI_1
 obtain ⟨u, hm_1, h1_122, hu⟩ := hI_1
 have h1_12 := KS hs_1 12
 have h1_13 := KS hs_1 13
 have h1_120 := KS hs_1 120
 have h1_121 := KS hs_1 121
 have k1_0 := KE hf_1 (N + 16 + 2)
 have k1_1 := KE hf_1 (N + 20 + 4)
 have k1_2 := KE hf_1 (g)
 have hlow := KL (N := N) (σ := σ) hf_1
 obtain hul | hul : u = 5 ∨ u < 5 := by omega
 ·subst hul
  have hcs := And.intro c9 True.intro
  clear c9 hTu i9
  exact W0
 ·obtain ⟨t, ht1, ht2⟩ := hTu u hul
  obtain ⟨⟨R1, R2, R3⟩, k1, k2⟩ := OpQ_ex i9 (by decide) ⟨cp, ck, cs⟩ ht2 g
  unfold moAV at k1 k2
  rw [hcA] at k1 k2
  simp only at k1 k2
  have hcs := And.intro k1 (And.intro k2 True.intro)
  clear k1 k2 c9 hTu i9 hcA
  refine Wk ?_
  clear hcs
  exact ⟨WS, WG, WN, _, (show 5 - (u + 1) < m_1 by omega), u + 1, rfl, WF, WC⟩
end
theorem TicketOpen_spec (xs : List Int) (_ : ∀ n ∈ xs, (Lit.int .i64 n).wf = true) (hx : xs.length ≤ 9223372036854775807) (raw plain : List UInt8) (at_ : Int) (n : Int) (w : (Lit.int .u8 n).wf = true) (g k : Nat) :
  ACall Tryd.prog 6 [.slice none (xs.map intAV), .slice none (raw.map byteAV), .slice none (plain.map byteAV), .lit (.int .i64 at_), .lit (.int .u8 n)] k [(g, shaG)] (.lit (.bool true)) [] := by
 obtain ⟨b, hb, rfl⟩ := byte_of_wf w
 exact @TicketOpen_core w32 xs hx raw plain at_ b g k
end Go.Proofs.YtdmjpolnbmoehaaDoor
