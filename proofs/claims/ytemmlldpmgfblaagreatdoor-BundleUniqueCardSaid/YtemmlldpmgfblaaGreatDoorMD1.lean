/- Texts K19p, Y5, Y6, C14, Y7, P1, E1, E2, E3, E4, E5, E6, joined. -/
import Derived.Test.YtemmlldpmgfblaaGreatDoorMY1

namespace Go.Proofs.YtemmlldpmgfblaaGreatDoor
open Go.Ab
theorem numR_ok {b : List UInt8} {u n v : Nat} (h : numR b u = (n, v, 0)) : ∃ q, rdS (b.drop u) = (n, q, 0) ∧ v = u + q ∧ q ≤ (b.drop u).length ∧ leb n = (b.drop u).take q := by
 unfold numR at h
 obtain ⟨⟨n', q, e⟩, hR⟩ : ∃ R, rdS (b.drop u) = R := ⟨_, rfl⟩
 rw [hR] at h
 simp only [Prod.mk.injEq] at h
 obtain ⟨rfl, rfl, rfl⟩ := h
 obtain ⟨_, h2, h3⟩ := rdS_ok _ hR
 exact ⟨q, hR, rfl, h2, h3⟩
theorem rdF_ok {b x : List UInt8} {q : Nat} (h : rdF b = (x, q, 0)) : q ≤ b.length ∧ fieldB x = b.take q ∧ x.length ≤ 1024 := by
 obtain ⟨⟨n, u, e⟩, hR⟩ : ∃ R, rdS b = R := ⟨_, rfl⟩
 unfold rdF at h
 rw [hR] at h
 simp only at h
 by_cases he : e ≠ 0
 ·rw [if_pos he] at h
  simp only [Prod.mk.injEq] at h
  exact absurd h.2.2 he
 obtain rfl : e = 0 := by omega
 obtain ⟨h1, h2, h3⟩ := rdS_ok _ hR
 rw [if_neg he] at h
 by_cases hn : 1024 < n
 ·rw [if_pos hn] at h; simp at h
 rw [if_neg hn] at h
 by_cases hs : b.length - u < n
 ·rw [if_pos hs] at h; simp at h
 rw [if_neg hs] at h
 simp only [Prod.mk.injEq] at h
 obtain ⟨rfl, rfl, _⟩ := h
 have hl : ((b.drop u).take n).length = n := by rw [List.length_take, List.length_drop]; omega
 refine ⟨by omega, ?_, by omega⟩
 rw [fieldB, hl, h3, List.take_add]
theorem fldR_ok {b x : List UInt8} {u v : Nat} (h : fldR b u = (x, v, 0)) : ∃ q, v = u + q ∧ q ≤ (b.drop u).length ∧ fieldB x = (b.drop u).take q ∧ x.length ≤ 1024 := by
 unfold fldR at h
 obtain ⟨⟨n', q, e⟩, hR⟩ : ∃ R, rdF (b.drop u) = R := ⟨_, rfl⟩
 rw [hR] at h
 simp only [Prod.mk.injEq] at h
 obtain ⟨rfl, rfl, rfl⟩ := h
 obtain ⟨h1, h2, h3⟩ := rdF_ok hR
 exact ⟨q, rfl, h1, h2, h3⟩
theorem take_join {b : List UInt8} {u q : Nat} : b.take u ++ (b.drop u).take q = b.take (u + q) := by rw [List.take_add]
theorem finP_ok2 {p q : Pr} {u n : Nat} (h : finP p u = (q, n, 0)) : predB q = true ∧ q = p ∧ n = u := by
 unfold finP at h
 split at h
 ·rename_i hb
  simp only [Prod.mk.injEq, and_true] at h
  obtain ⟨rfl, rfl⟩ := h
  exact ⟨hb, rfl, rfl⟩
 ·simp at h
set_option maxHeartbeats 2000000 in
theorem eight_be8 (L : List UInt8) (h : L.length = 8) : eightB (be8 L : Int) = L := by
 obtain ⟨a, b, c, d, e, f, g, i, rfl⟩ : ∃ a b c d e f g i, L = [a, b, c, d, e, f, g, i] := by
  match L, h with
  | [a, b, c, d, e, f, g, i], _ => exact ⟨a, b, c, d, e, f, g, i, rfl⟩
 have ha := a.toNat_lt
 have hb := b.toNat_lt
 have hc := c.toNat_lt
 have hd := d.toNat_lt
 have he := e.toNat_lt
 have hf := f.toNat_lt
 have hg := g.toNat_lt
 have hi := i.toNat_lt
 obtain ⟨m, hm⟩ : ∃ m : Int, ((be8 [a, b, c, d, e, f, g, i] : Nat) : Int) = m := ⟨_, rfl⟩
 rw [hm]
 simp only [be8, List.foldl_cons, List.foldl_nil] at hm
 have d7 : m / 72057594037927936 % 256 = a.toNat := by omega
 have d6 : m / 281474976710656 % 256 = b.toNat := by omega
 have d5 : m / 1099511627776 % 256 = c.toNat := by omega
 have d4 : m / 4294967296 % 256 = d.toNat := by omega
 have d3 : m / 16777216 % 256 = e.toNat := by omega
 have d2 : m / 65536 % 256 = f.toNat := by omega
 have d1 : m / 256 % 256 = g.toNat := by omega
 have d0 : m % 256 = i.toNat := by omega
 have e7 := sh8_toNat m 56
 have e6 := sh8_toNat m 48
 have e5 := sh8_toNat m 40
 have e4 := sh8_toNat m 32
 have e3 := sh8_toNat m 24
 have e2 := sh8_toNat m 16
 have e1 := sh8_toNat m 8
 have e0 := sh8_toNat m 0
 simp only [Int.reducePow, Int.pow_zero, Int.ediv_one] at e7 e6 e5 e4 e3 e2 e1 e0
 rw [d7] at e7
 rw [d6] at e6
 rw [d5] at e5
 rw [d4] at e4
 rw [d3] at e3
 rw [d2] at e2
 rw [d1] at e1
 rw [d0] at e0
 have key : ∀ x y : UInt8, (x.toNat : Int) = (y.toNat : Int) → x = y := fun x y h => UInt8.toNat_inj.1 (by exact_mod_cast h)
 unfold eightB
 rw [key (sh8 m 56) a e7, key (sh8 m 48) b e6, key (sh8 m 40) c e5, key (sh8 m 32) d e4, key (sh8 m 24) e e3, key (sh8 m 16) f e2, key (sh8 m 8) g e1, key (sh8 m 0) i e0]
theorem decP_uniq {b : List UInt8} {p : Pr} {n : Nat} (h : decP b = (p, n, 0)) : predB p = true ∧ encP p = b.take n ∧ n ≤ b.length := by
 obtain ⟨⟨kn, u, e⟩, hR⟩ : ∃ R, numR b 0 = R := ⟨_, rfl⟩
 unfold decP at h
 rw [hR] at h
 simp only at h
 by_cases he : e ≠ 0
 ·rw [if_pos he] at h
  simp only [Prod.mk.injEq] at h
  exact absurd h.2.2 he
 obtain rfl : e = 0 := by omega
 rw [if_neg he] at h
 obtain ⟨q, _, hu, hq, hleb⟩ := numR_ok hR
 rw [List.drop_zero] at hq hleb
 rw [Nat.zero_add] at hu
 subst hu
 by_cases hk : kn = 1 ∨ kn = 2 ∨ kn = 3
 ·rw [if_pos hk] at h
  by_cases hs : b.length - u < 8
  ·rw [if_pos hs] at h; simp at h
  rw [if_neg hs] at h
  obtain ⟨h1, rfl, rfl⟩ := finP_ok2 h
  refine ⟨h1, ?_, by omega⟩
  rw [encP_mask hk, eight_be8 _ (by rw [List.length_take, List.length_drop]; omega), hleb, take_join]
 rw [if_neg hk] at h
 by_cases hk4 : kn = 4 ∨ kn = 5
 ·rw [if_pos hk4] at h
  obtain ⟨⟨f, u2, e2⟩, hR2⟩ : ∃ R, numR b u = R := ⟨_, rfl⟩
  rw [hR2] at h
  simp only at h
  by_cases he2 : e2 ≠ 0
  ·rw [if_pos he2] at h
   simp only [Prod.mk.injEq] at h
   exact absurd h.2.2 he2
  obtain rfl : e2 = 0 := by omega
  rw [if_neg he2] at h
  obtain ⟨q2, _, hu2, hq2, hleb2⟩ := numR_ok hR2
  subst hu2
  obtain ⟨⟨g, u3, e3⟩, hR3⟩ : ∃ R, numR b (u + q2) = R := ⟨_, rfl⟩
  rw [hR3] at h
  simp only at h
  by_cases he3 : e3 ≠ 0
  ·rw [if_pos he3] at h
   simp only [Prod.mk.injEq] at h
   exact absurd h.2.2 he3
  obtain rfl : e3 = 0 := by omega
  rw [if_neg he3] at h
  obtain ⟨q3, _, hu3, hq3, hleb3⟩ := numR_ok hR3
  subst hu3
  obtain ⟨h1, rfl, rfl⟩ := finP_ok2 h
  rw [List.length_drop] at hq2 hq3
  refine ⟨h1, ?_, by omega⟩
  rw [encP_span hk4, hleb, hleb2, hleb3, ← List.append_assoc, take_join, take_join]
 rw [if_neg hk4] at h
 by_cases hk6 : kn = 6
 ·subst hk6
  rw [if_pos rfl] at h
  obtain ⟨⟨f, u2, e2⟩, hR2⟩ : ∃ R, fldR b u = R := ⟨_, rfl⟩
  rw [hR2] at h
  simp only at h
  by_cases he2 : e2 ≠ 0
  ·rw [if_pos he2] at h
   simp only [Prod.mk.injEq] at h
   exact absurd h.2.2 he2
  obtain rfl : e2 = 0 := by omega
  rw [if_neg he2] at h
  obtain ⟨q2, hu2, hq2, hleb2, _⟩ := fldR_ok hR2
  subst hu2
  obtain ⟨h1, rfl, rfl⟩ := finP_ok2 h
  rw [List.length_drop] at hq2
  refine ⟨h1, ?_, by omega⟩
  rw [encP_holder, hleb, hleb2, take_join]
 rw [if_neg hk6] at h
 by_cases hk7 : kn = 7
 ·subst hk7
  rw [if_pos rfl] at h
  obtain ⟨⟨f, u2, e2⟩, hR2⟩ : ∃ R, numR b u = R := ⟨_, rfl⟩
  rw [hR2] at h
  simp only at h
  by_cases he2 : e2 ≠ 0
  ·rw [if_pos he2] at h
   simp only [Prod.mk.injEq] at h
   exact absurd h.2.2 he2
  obtain rfl : e2 = 0 := by omega
  rw [if_neg he2] at h
  obtain ⟨q2, _, hu2, hq2, hleb2⟩ := numR_ok hR2
  subst hu2
  obtain ⟨h1, rfl, rfl⟩ := finP_ok2 h
  rw [List.length_drop] at hq2
  refine ⟨h1, ?_, by omega⟩
  rw [encP_rides, hleb, hleb2, take_join]
 rw [if_neg hk7] at h
 simp at h
theorem finC_ok2 {p q : Ca} {u n : Nat} (h : finC p u = (q, n, 0)) : cavB q = true ∧ q = p ∧ n = u := by
 unfold finC at h
 split at h
 ·rename_i hb
  simp only [Prod.mk.injEq, and_true] at h
  obtain ⟨rfl, rfl⟩ := h
  exact ⟨hb, rfl, rfl⟩
 ·simp at h
theorem decC_uniq {b : List UInt8} {c : Ca} {n : Nat} (h : decC b = (c, n, 0)) : cavB c = true ∧ encC c = b.take n ∧ n ≤ b.length := by
 obtain ⟨⟨kn, u, e⟩, hR⟩ : ∃ R, numR b 0 = R := ⟨_, rfl⟩
 unfold decC at h
 rw [hR] at h
 simp only at h
 by_cases he : e ≠ 0
 ·rw [if_pos he] at h
  simp only [Prod.mk.injEq] at h
  exact absurd h.2.2 he
 obtain rfl : e = 0 := by omega
 rw [if_neg he] at h
 obtain ⟨q, _, hu, hq, hleb⟩ := numR_ok hR
 rw [List.drop_zero] at hq hleb
 rw [Nat.zero_add] at hu
 subst hu
 by_cases hk : kn = 1
 ·subst hk
  rw [if_pos rfl] at h
  obtain ⟨⟨p, u2, e2⟩, hR2⟩ : ∃ R, predR b u = R := ⟨_, rfl⟩
  rw [hR2] at h
  simp only at h
  by_cases he2 : e2 ≠ 0
  ·rw [if_pos he2] at h
   simp only [Prod.mk.injEq] at h
   exact absurd h.2.2 he2
  obtain rfl : e2 = 0 := by omega
  rw [if_neg he2] at h
  obtain ⟨h1, rfl, rfl⟩ := finC_ok2 h
  unfold predR at hR2
  obtain ⟨⟨p', q2, e'⟩, hD⟩ : ∃ R, decP (b.drop u) = R := ⟨_, rfl⟩
  rw [hD] at hR2
  simp only [Prod.mk.injEq] at hR2
  obtain ⟨rfl, rfl, rfl⟩ := hR2
  obtain ⟨k1, k2, k3⟩ := decP_uniq hD
  rw [List.length_drop] at k3
  refine ⟨h1, ?_, by omega⟩
  have he : encC ⟨false, p', 0, [], []⟩ = leb 1 ++ encP p' := by rw [leb1]; rfl
  rw [he, hleb, k2, take_join]
 rw [if_neg hk] at h
 by_cases hk2 : kn = 2
 ·subst hk2
  rw [if_pos rfl] at h
  obtain ⟨⟨m, u2, e2⟩, hR2⟩ : ∃ R, numR b u = R := ⟨_, rfl⟩
  rw [hR2] at h
  simp only at h
  obtain ⟨⟨t, u3, e3⟩, hR3⟩ : ∃ R, fldO b u2 e2 = R := ⟨_, rfl⟩
  rw [hR3] at h
  simp only at h
  obtain ⟨⟨x, u4, e4⟩, hR4⟩ : ∃ R, fldO b u3 e3 = R := ⟨_, rfl⟩
  rw [hR4] at h
  simp only at h
  by_cases he4 : e4 ≠ 0
  ·rw [if_pos he4] at h
   simp only [Prod.mk.injEq] at h
   exact absurd h.2.2 he4
  obtain rfl : e4 = 0 := by omega
  rw [if_neg he4] at h
  have e30 : e3 = 0 := fldO_e (b := b) (u := u3) (by rw [hR4])
  subst e30
  have e20 : e2 = 0 := fldO_e (b := b) (u := u2) (by rw [hR3])
  subst e20
  rw [fldO_0] at hR3 hR4
  obtain ⟨q2, _, hu2, hq2, hl2⟩ := numR_ok hR2
  subst hu2
  obtain ⟨q3, hu3, hq3, hl3, _⟩ := fldR_ok hR3
  subst hu3
  obtain ⟨q4, hu4, hq4, hl4, _⟩ := fldR_ok hR4
  subst hu4
  obtain ⟨h1, rfl, rfl⟩ := finC_ok2 h
  rw [List.length_drop] at hq2 hq3 hq4
  refine ⟨h1, ?_, by omega⟩
  have he : encC ⟨true, zeroPr, m, t, x⟩ = leb 2 ++ (leb m ++ (fieldB t ++ fieldB x)) := by rw [leb2]; rfl
  rw [he, hleb, hl2, hl3, hl4, ← List.append_assoc, ← List.append_assoc, take_join, take_join, take_join]
 rw [if_neg hk2] at h
 simp at h
end Go.Proofs.YtemmlldpmgfblaaGreatDoor

namespace Go.Proofs.YtemmlldpmgfblaaGreatDoor
open Go.Ab
attribute [local irreducible] Go.Ab.tyAV Go.Ab.aw Go.Ab.aops Go.Ab.kReg Go.Ab.aThen Go.Ab.aBlk Go.Ab.acond Go.Ab.aguard Go.Ab.astep Go.Ab.AStepX Go.Ab.aRet
theorem numO_at {b t : List UInt8} {u n : Nat} (h : b.drop u = leb n ++ t) (hn : n ≤ 281474976710656) : numO b u 0 = (n, u + (leb n).length, 0) := by
 unfold numO; rw [if_neg (by simp)]; exact numR_at h hn
theorem cntO_at {b t : List UInt8} {u n m : Nat} (h : b.drop u = leb n ++ t) (hn : n ≤ m) (hm : m ≤ 281474976710656) : cntO b m u 0 = (n, u + (leb n).length, 0) := by
 unfold cntO
 rw [numO_at h (by omega), if_neg (by simp), if_neg (by simp only; omega)]
theorem tagO_at {b t : List UInt8} {u : Nat} {p : Tg} (h : b.drop u = p.1 ++ t) : tagO b u 0 = (p, u + 32, 0) := by
 have hl : (b.drop u).length = 32 + t.length := by rw [h, List.length_append, p.2]
 rw [List.length_drop] at hl
 unfold tagO
 rw [if_neg (by simp), dif_pos (by omega)]
 have : (b.drop u).take 32 = p.1 := by rw [h]; exact List.take_left' p.2
 obtain ⟨p, hp⟩ := p
 simp only at this
 simp only [this]
theorem cavO_at {b t : List UInt8} {u : Nat} {c : Ca} (h : b.drop u = encC c ++ t) (hp : PrOk c.first) (hc : cavB c = true) : cavO b u 0 = (c, u + (encC c).length, 0) := by
 unfold cavO; rw [if_neg (by simp), h, decC_enc c hp hc t]
theorem prdO_at {b t : List UInt8} {u : Nat} {p : Pr} (h : b.drop u = encP p ++ t) (hp : PrOk p) (hc : predB p = true) : prdO b u 0 = (p, u + (encP p).length, 0) := by
 unfold prdO; rw [if_neg (by simp)]; exact predR_at h hp hc
theorem itS_at {α : Type} {f : Nat → Nat → α × Nat × Nat} {enc : α → List UInt8} {b t : List UInt8} {l : List α} {u : Nat} (hf : ∀ x ∈ l, ∀ (u : Nat) (t : List UInt8), b.drop u = enc x ++ t → f u 0 = (x, u + (enc x).length, 0)) (h : b.drop u = l.flatMap enc ++ t) :
  ∀ k, k ≤ l.length → itS f k u 0 = (l.take k, u + ((l.take k).flatMap enc).length, 0)
 | 0, _ => rfl
 | k + 1, hk => by
  have ih := itS_at hf h k (by omega)
  have hs : l = l.take k ++ l[k] :: l.drop (k + 1) := by
   rw [List.getElem_cons_drop, List.take_append_drop]
  have h2 : b.drop (u + ((l.take k).flatMap enc).length) = enc l[k] ++ ((l.drop (k + 1)).flatMap enc ++ t) := by
   refine drop_app ?_
   rw [h]
   conv => lhs; rw [hs]
   rw [List.flatMap_append, List.flatMap_cons]
   simp only [List.append_assoc]
  rw [itS, ih, if_neg (by simp)]
  simp only
  rw [hf l[k] (List.getElem_mem _) _ _ h2]
  have h3 : l.take (k + 1) = l.take k ++ [l[k]] := by rw [List.take_add_one, List.getElem?_eq_getElem (by omega)]; rfl
  rw [h3, List.flatMap_append, List.length_append]
  simp [Nat.add_assoc]
theorem itS_all {α : Type} {f : Nat → Nat → α × Nat × Nat} {enc : α → List UInt8} {b t : List UInt8} {l : List α} {u : Nat} (hf : ∀ x ∈ l, ∀ (u : Nat) (t : List UInt8), b.drop u = enc x ++ t → f u 0 = (x, u + (enc x).length, 0)) (h : b.drop u = l.flatMap enc ++ t) :
  itS f l.length u 0 = (l, u + (l.flatMap enc).length, 0) := by
 rw [itS_at hf h l.length (Nat.le_refl _), List.take_length]
theorem bndO_at {b t : List UInt8} {u : Nat} {d : Bo} (hd : BoV d) (h : b.drop u = encBo d ++ t) : bndO b u 0 = (d, u + (encBo d).length, 0) := by
 have h1 : b.drop u = fieldB d.ticket ++ (leb d.conds.length ++ (d.conds.flatMap encP ++ (d.proof.1 ++ t))) := by
  rw [h]; simp only [encBo, List.append_assoc]
 have e1 := fldR_at h1 hd.t2
 have h2 := drop_app h1
 have e2 := cntO_at (m := 8) h2 hd.cl (by decide)
 have h3 := drop_app h2
 have e3 := itS_all (f := prdO b) (enc := encP) (fun x hx u t h => prdO_at h (hd.cv x hx).2 (hd.cv x hx).1) h3
 have h4 := drop_app h3
 have e4 := tagO_at h4
 unfold bndO bndS
 rw [if_neg (by simp)]
 simp only [e1, e2, e3, e4]
 have hl : u + (encBo d).length = u + (fieldB d.ticket).length + (leb d.conds.length).length + (d.conds.flatMap encP).length + 32 := by
  simp only [encBo, List.length_append, d.proof.2]; omega
 rw [hl]
theorem decB_enc (z : Bu) (hz : BuIn z) (hc : chkS z = 0) : decB (encBu z) = (z, 0) := by
 obtain ⟨hv, hl⟩ := chk_valid hz hc
 obtain ⟨⟨g0, g1⟩, n0, n1⟩ := rqB_iff.1 hv.rq
 have q1 := hv.e1
 have q2 := hv.e2
 have q3 := hv.s1
 have q4 := hv.s2
 have q5 := hv.cl
 have q6 := hv.dl
 generalize hb : encBu z = b at *
 have h0 : b.drop 0 = leb 1 ++ (leb z.req.gate.toNat ++ (leb z.req.nonce.toNat ++ (leb z.epoch.toNat ++ (leb z.serial.toNat ++ (leb z.cavs.length ++ (z.cavs.flatMap encC ++ (z.proof.1 ++ (leb z.dis.length ++ (z.dis.flatMap encBo ++ []))))))))) := by
  rw [List.drop_zero, ← hb]; simp only [encBu, headN, List.flatMap_cons, List.flatMap_nil, List.append_assoc, List.append_nil]
 have e1 := numO_at h0 (by decide)
 have h1 := drop_app h0
 have e2 := numO_at h1 (by omega)
 have h2 := drop_app h1
 have e3 := numO_at h2 (by omega)
 have h3 := drop_app h2
 have e4 := numO_at h3 (by omega)
 have h4 := drop_app h3
 have e5 := numO_at h4 (by omega)
 have h5 := drop_app h4
 have e6 := cntO_at (m := 64) h5 q5 (by decide)
 have h6 := drop_app h5
 have e7 := itS_all (f := cavO b) (enc := encC) (fun x hx u t h => cavO_at h (hv.cv x hx).2 (hv.cv x hx).1) h6
 have h7 := drop_app h6
 have e8 := tagO_at h7
 have h8 := drop_app h7
 rw [z.proof.2] at h8
 have e9 := cntO_at (m := 8) h8 q6 (by decide)
 have h9 := drop_app h8
 have e10 := itS_all (f := bndO b) (enc := encBo) (fun x hx u t h => bndO_at (hv.dv x hx) h) h9
 have h10 := congrArg List.length (drop_app h9)
 rw [List.length_drop, List.length_nil] at h10
 have hw : bunW b itS itS = (z, b.length, 0) := by
  have t1 : ((z.req.gate.toNat : Nat) : Int) = z.req.gate := Int.toNat_of_nonneg g0
  have t2 : ((z.req.nonce.toNat : Nat) : Int) = z.req.nonce := Int.toNat_of_nonneg (by omega)
  have t3 : ((z.epoch.toNat : Nat) : Int) = z.epoch := Int.toNat_of_nonneg (by omega)
  have t4 : ((z.serial.toNat : Nat) : Int) = z.serial := Int.toNat_of_nonneg (by omega)
  unfold bunW
  simp only [e1, e2, e3, e4, e5, e6, e7, e8, e9, e10, ne_eq, not_true_eq_false, and_false, if_false, t1, t2, t3, t4]
  have hle : ∀ q : Nat, b.length - q = 0 → q ≤ b.length → (if 0 = 0 ∧ q < b.length then 4 else 0) = 0 ∧ q = b.length := fun q h1 h2 => ⟨by rw [if_neg (by omega)], by omega⟩
  have hlen : b.length = 0 + (leb 1).length + (leb z.req.gate.toNat).length + (leb z.req.nonce.toNat).length + (leb z.epoch.toNat).length + (leb z.serial.toNat).length + (leb z.cavs.length).length + (z.cavs.flatMap encC).length + 32 + (leb z.dis.length).length + (z.dis.flatMap encBo).length := by
   rw [← hb]; simp only [encBu, headN, List.flatMap_cons, List.flatMap_nil, List.append_nil, List.length_append, z.proof.2]; omega
  rw [← hlen, if_neg (by omega)]
 unfold decB
 rw [hw, if_neg (by omega)]
 simp only [ne_eq, not_true_eq_false, if_false, hc]
theorem numO_uq {b : List UInt8} {u e n v : Nat} (hu : u ≤ b.length) (h : numO b u e = (n, v, 0)) : e = 0 ∧ v ≤ b.length ∧ b.take v = b.take u ++ leb n := by
 unfold numO at h
 split at h
 ·simp only [Prod.mk.injEq] at h; omega
 ·obtain ⟨q, _, rfl, h3, h4⟩ := numR_ok h
  rw [List.length_drop] at h3
  exact ⟨by omega, by omega, by rw [h4, take_join]⟩
theorem cntO_uq {b : List UInt8} {m u e n v : Nat} (hu : u ≤ b.length) (h : cntO b m u e = (n, v, 0)) : e = 0 ∧ v ≤ b.length ∧ b.take v = b.take u ++ leb n := by
 unfold cntO at h
 split at h
 ·rename_i h1
  simp only [Prod.mk.injEq] at h
  rw [h.2] at h1; exact absurd rfl h1
 split at h
 ·simp only [Prod.mk.injEq] at h; omega
 ·exact numO_uq hu h
theorem tagO_uq {b : List UInt8} {u e v : Nat} {p : Tg} (hu : u ≤ b.length) (h : tagO b u e = (p, v, 0)) : e = 0 ∧ v ≤ b.length ∧ b.take v = b.take u ++ p.1 := by
 unfold tagO at h
 split at h
 ·simp only [Prod.mk.injEq] at h; omega
 split at h
 ·rename_i h1 h2
  simp only [Prod.mk.injEq] at h
  obtain ⟨rfl, rfl, _⟩ := h
  exact ⟨by omega, h2, by rw [take_join]⟩
 ·simp only [Prod.mk.injEq] at h; omega
theorem cavO_uq {b : List UInt8} {u e v : Nat} {c : Ca} (hu : u ≤ b.length) (h : cavO b u e = (c, v, 0)) : e = 0 ∧ v ≤ b.length ∧ b.take v = b.take u ++ encC c := by
 unfold cavO at h
 split at h
 ·simp only [Prod.mk.injEq] at h; omega
 ·simp only [Prod.mk.injEq] at h
  obtain ⟨h1, rfl, h3⟩ := h
  have hd : decC (b.drop u) = (c, (decC (b.drop u)).2.1, 0) := by rw [← h1, ← h3]
  obtain ⟨_, h5, h6⟩ := decC_uniq hd
  rw [List.length_drop] at h6
  exact ⟨by omega, by omega, by rw [h5, take_join]⟩
theorem prdO_uq {b : List UInt8} {u e v : Nat} {p : Pr} (hu : u ≤ b.length) (h : prdO b u e = (p, v, 0)) : e = 0 ∧ v ≤ b.length ∧ b.take v = b.take u ++ encP p := by
 unfold prdO at h
 split at h
 ·simp only [Prod.mk.injEq] at h; omega
 ·unfold predR at h
  simp only [Prod.mk.injEq] at h
  obtain ⟨h1, rfl, h3⟩ := h
  have hd : decP (b.drop u) = (p, (decP (b.drop u)).2.1, 0) := by rw [← h1, ← h3]
  obtain ⟨_, h5, h6⟩ := decP_uniq hd
  rw [List.length_drop] at h6
  exact ⟨by omega, by omega, by rw [h5, take_join]⟩
theorem itS_uq {α : Type} {f : Nat → Nat → α × Nat × Nat} {enc : α → List UInt8} {b : List UInt8} (hf : ∀ (u e v : Nat) (x : α), u ≤ b.length → f u e = (x, v, 0) → e = 0 ∧ v ≤ b.length ∧ b.take v = b.take u ++ enc x) :
  ∀ (n u e v : Nat) (l : List α), u ≤ b.length → itS f n u e = (l, v, 0) → e = 0 ∧ v ≤ b.length ∧ b.take v = b.take u ++ l.flatMap enc ∧ l.length = n
 | 0, u, e, v, l, hu, h => by
  simp only [itS, Prod.mk.injEq] at h
  obtain ⟨rfl, rfl, rfl⟩ := h
  exact ⟨rfl, hu, by simp, rfl⟩
 | n + 1, u, e, v, l, hu, h => by
  rw [itS] at h
  obtain ⟨⟨l', v', e'⟩, hR⟩ : ∃ R, itS f n u e = R := ⟨_, rfl⟩
  rw [hR] at h
  simp only at h
  split at h
  ·rename_i h1
   simp only [Prod.mk.injEq] at h; omega
  ·rename_i h1
   obtain rfl : e' = 0 := by omega
   obtain ⟨i1, i2, i3, i4⟩ := itS_uq hf n u e v' l' hu hR
   obtain ⟨⟨x, v2, e2⟩, hX⟩ : ∃ R, f v' 0 = R := ⟨_, rfl⟩
   rw [hX] at h
   simp only [Prod.mk.injEq] at h
   obtain ⟨rfl, rfl, rfl⟩ := h
   obtain ⟨_, j2, j3⟩ := hf v' 0 v2 x i2 hX
   refine ⟨i1, j2, ?_, ?_⟩
   ·rw [j3, i3, List.flatMap_append, List.flatMap_cons, List.flatMap_nil, List.append_nil, List.append_assoc]
   ·simp [i4]
theorem bndO_uq {b : List UInt8} {u e v : Nat} {d : Bo} (hu : u ≤ b.length) (h : bndO b u e = (d, v, 0)) : e = 0 ∧ v ≤ b.length ∧ b.take v = b.take u ++ encBo d := by
 unfold bndO at h
 split at h
 ·simp only [Prod.mk.injEq] at h; omega
 ·unfold bndS at h
  obtain ⟨⟨t, v1, e1⟩, h1⟩ : ∃ R, fldR b u = R := ⟨_, rfl⟩
  rw [h1] at h
  simp only at h
  obtain ⟨⟨n, v2, e2⟩, h2⟩ : ∃ R, cntO b 8 v1 e1 = R := ⟨_, rfl⟩
  rw [h2] at h
  simp only at h
  obtain ⟨⟨l, v3, e3⟩, h3⟩ : ∃ R, itS (prdO b) n v2 e2 = R := ⟨_, rfl⟩
  rw [h3] at h
  simp only at h
  obtain ⟨⟨p, v4, e4⟩, h4⟩ : ∃ R, tagO b v3 e3 = R := ⟨_, rfl⟩
  rw [h4] at h
  simp only [Prod.mk.injEq] at h
  obtain ⟨rfl, rfl, rfl⟩ := h
  have b1 : v1 ≤ b.length := by have := fldR_le hu; rw [h1] at this; exact this
  have b2 : v2 ≤ b.length := by have := cntO_le (m := 8) (e := e1) b1; rw [h2] at this; exact this
  have b3 : v3 ≤ b.length := by have := (itS_ok (f := prdO b) (Q := PrOk) (fun u hu => prdO_ok u 0 hu) n v2 e2 b2).2; rw [h3] at this; exact this
  obtain ⟨rfl, j1, j2⟩ := tagO_uq b3 h4
  obtain ⟨rfl, _, j3, j4⟩ := itS_uq (enc := encP) (fun u e v x hu h => prdO_uq hu h) n v2 e2 v3 l b2 h3
  obtain ⟨rfl, _, j5⟩ := cntO_uq b1 h2
  obtain ⟨q, rfl, j6, j7, _⟩ := fldR_ok h1
  refine ⟨by omega, j1, ?_⟩
  rw [j2, j3, j5, ← take_join, ← j7]
  simp only [encBo, j4, List.append_assoc]
theorem decB_uniq {b : List UInt8} {z : Bu} (h : decB b = (z, 0)) : chkS z = 0 ∧ encBu z = b ∧ b.length ≤ 4096 := by
 unfold decB at h
 split at h
 ·simp only [Prod.mk.injEq] at h; omega
 rename_i hl
 split at h
 ·rename_i h1
  simp only [Prod.mk.injEq] at h; omega
 rename_i hE
 split at h
 ·rename_i h1
  simp only [Prod.mk.injEq] at h; omega
 rename_i hC
 simp only [Prod.mk.injEq, and_true] at h
 rw [h] at hC
 refine ⟨by omega, ?_, by omega⟩
 unfold bunW at h hE
 obtain ⟨⟨n1, v1, e1⟩, h1⟩ : ∃ R, numO b 0 0 = R := ⟨_, rfl⟩
 simp only [h1] at h hE
 generalize hx : (if e1 = 0 ∧ n1 ≠ 1 then 6 else e1) = x1 at *
 obtain ⟨⟨n2, v2, e2⟩, h2⟩ : ∃ R, numO b v1 x1 = R := ⟨_, rfl⟩
 simp only [h2] at h hE
 obtain ⟨⟨n3, v3, e3⟩, h3⟩ : ∃ R, numO b v2 e2 = R := ⟨_, rfl⟩
 simp only [h3] at h hE
 obtain ⟨⟨n4, v4, e4⟩, h4⟩ : ∃ R, numO b v3 e3 = R := ⟨_, rfl⟩
 simp only [h4] at h hE
 obtain ⟨⟨n5, v5, e5⟩, h5⟩ : ∃ R, numO b v4 e4 = R := ⟨_, rfl⟩
 simp only [h5] at h hE
 obtain ⟨⟨n6, v6, e6⟩, h6⟩ : ∃ R, cntO b 64 v5 e5 = R := ⟨_, rfl⟩
 simp only [h6] at h hE
 obtain ⟨⟨l7, v7, e7⟩, h7⟩ : ∃ R, itS (cavO b) n6 v6 e6 = R := ⟨_, rfl⟩
 simp only [h7] at h hE
 obtain ⟨⟨t8, v8, e8⟩, h8⟩ : ∃ R, tagO b v7 e7 = R := ⟨_, rfl⟩
 simp only [h8] at h hE
 obtain ⟨⟨n9, v9, e9⟩, h9⟩ : ∃ R, cntO b 8 v8 e8 = R := ⟨_, rfl⟩
 simp only [h9] at h hE
 obtain ⟨⟨l10, v10, e10⟩, h10⟩ : ∃ R, itS (bndO b) n9 v9 e9 = R := ⟨_, rfl⟩
 simp only [h10] at h hE
 have hz : e10 = 0 ∧ ¬ v10 < b.length := by
  by_cases hq : e10 = 0 ∧ v10 < b.length
  ·rw [if_pos hq] at hE; exact absurd (by decide) hE
  ·rw [if_neg hq] at hE; omega
 obtain ⟨rfl, hv10⟩ := hz
 have b1 : v1 ≤ b.length := by have := numO_le (b := b) (u := 0) (e := 0) (Nat.zero_le _); rw [h1] at this; exact this
 have b2 : v2 ≤ b.length := by have := numO_le (e := x1) b1; rw [h2] at this; exact this
 have b3 : v3 ≤ b.length := by have := numO_le (e := e2) b2; rw [h3] at this; exact this
 have b4 : v4 ≤ b.length := by have := numO_le (e := e3) b3; rw [h4] at this; exact this
 have b5 : v5 ≤ b.length := by have := numO_le (e := e4) b4; rw [h5] at this; exact this
 have b6 : v6 ≤ b.length := by have := cntO_le (m := 64) (e := e5) b5; rw [h6] at this; exact this
 have b7 : v7 ≤ b.length := by have := (itS_ok (f := cavO b) (Q := fun c => PrOk c.first) (fun u hu => cavO_ok u 0 hu) n6 v6 e6 b6).2; rw [h7] at this; exact this
 have b8 : v8 ≤ b.length := by have := tagO_le (e := e7) b7; rw [h8] at this; exact this
 have b9 : v9 ≤ b.length := by have := cntO_le (m := 8) (e := e8) b8; rw [h9] at this; exact this
 obtain ⟨rfl, w10, j10, k10⟩ := itS_uq (enc := encBo) (fun u e v x hu h => bndO_uq hu h) n9 v9 e9 v10 l10 b9 h10
 obtain ⟨rfl, _, j9⟩ := cntO_uq b8 h9
 obtain ⟨rfl, _, j8⟩ := tagO_uq b7 h8
 obtain ⟨rfl, _, j7, k7⟩ := itS_uq (enc := encC) (fun u e v x hu h => cavO_uq hu h) n6 v6 e6 v7 l7 b6 h7
 obtain ⟨rfl, _, j6⟩ := cntO_uq b5 h6
 obtain ⟨rfl, _, j5⟩ := numO_uq b4 h5
 obtain ⟨rfl, _, j4⟩ := numO_uq b3 h4
 obtain ⟨rfl, _, j3⟩ := numO_uq b2 h3
 obtain ⟨rfl, _, j2⟩ := numO_uq b1 h2
 have hn1 : n1 = 1 ∧ e1 = 0 := by
  by_cases hq : e1 = 0 ∧ n1 ≠ 1
  ·rw [if_pos hq] at hx; cases hx
  ·rw [if_neg hq] at hx; omega
 obtain ⟨rfl, rfl⟩ := hn1
 obtain ⟨_, _, j1⟩ := numO_uq (Nat.zero_le _) h1
 have hb : b = b.take v10 := (List.take_of_length_le (by omega)).symm
 rw [← h, hb, j10, j9, j8, j7, j6, j5, j4, j3, j2, j1]
 simp only [encBu, headN, List.flatMap_cons, List.flatMap_nil, Int.toNat_natCast, k7, k10, List.append_assoc, List.append_nil, List.take_zero, List.nil_append]

end Go.Proofs.YtemmlldpmgfblaaGreatDoor

namespace Go.Ab
end Go.Ab

namespace Go.Proofs.YtemmlldpmgfblaaGreatDoor
open Go.Ab
attribute [local irreducible] Go.Ab.tyAV Go.Ab.aw Go.Ab.aops Go.Ab.kReg Go.Ab.aThen Go.Ab.aBlk Go.Ab.acond Go.Ab.aguard Go.Ab.astep Go.Ab.AStepX Go.Ab.aRet
end Go.Proofs.YtemmlldpmgfblaaGreatDoor

namespace Go.Ab
def bitsN : Nat → Nat → List Bool
 | 0, _ => []
 | n + 1, v => (v / 2 ^ n % 2 == 1) :: bitsN n v
def numA (a : Nat) (l : List Bool) : Nat := l.foldl (fun a b => 2 * a + b.toNat) a
def num (l : List Bool) : Nat := numA 0 l
theorem numA_eq (l : List Bool) : ∀ a, numA a l = a * 2 ^ l.length + num l := by
 induction l with
 | nil => intro a; simp [num, numA]
 | cons b r ih =>
  intro a
  have h1 : numA a (b :: r) = numA (2 * a + b.toNat) r := rfl
  have h2 : num (b :: r) = numA (2 * 0 + b.toNat) r := rfl
  rw [h1, h2, ih, ih (2 * 0 + b.toNat), List.length_cons, Nat.pow_succ, Nat.add_mul, Nat.mul_zero, Nat.zero_add, Nat.mul_comm 2 a, Nat.mul_assoc, Nat.mul_comm 2]
  omega
theorem num_nil : num [] = 0 := rfl
theorem num_cons (b : Bool) (r : List Bool) : num (b :: r) = b.toNat * 2 ^ r.length + num r := by
 have h2 : num (b :: r) = numA (2 * 0 + b.toNat) r := rfl
 rw [h2, numA_eq, Nat.mul_zero, Nat.zero_add]
theorem num_append (a b : List Bool) : num (a ++ b) = num a * 2 ^ b.length + num b := by
 have : num (a ++ b) = numA (num a) b := by simp [num, numA]
 rw [this, numA_eq]
theorem num_lt (l : List Bool) : num l < 2 ^ l.length := by
 induction l with
 | nil => simp [num, numA]
 | cons b r ih =>
  rw [num_cons, List.length_cons, Nat.pow_succ]
  have : b.toNat ≤ 1 := by cases b <;> simp
  have : b.toNat * 2 ^ r.length ≤ 1 * 2 ^ r.length := Nat.mul_le_mul_right _ this
  omega
theorem bitsN_len (n v : Nat) : (bitsN n v).length = n := by
 induction n with
 | zero => rfl
 | succ n ih => simp [bitsN, ih]
theorem beq1_toNat (x : Nat) (h : x < 2) : (x == 1).toNat = x := by
 have : x = 0 ∨ x = 1 := by omega
 rcases this with rfl | rfl <;> rfl
theorem num_bitsN (n v : Nat) : num (bitsN n v) = v % 2 ^ n := by
 induction n with
 | zero => simp [bitsN, num, numA, Nat.mod_one]
 | succ n ih =>
  rw [bitsN, num_cons, bitsN_len, ih, beq1_toNat _ (Nat.mod_lt _ (by omega)), Nat.pow_succ, Nat.mod_mul, Nat.mul_comm (2 ^ n)]
  omega
theorem bitsN_mod (n v m : Nat) (h : n ≤ m) : bitsN n (v % 2 ^ m) = bitsN n v := by
 induction n with
 | zero => rfl
 | succ n ih =>
  simp only [bitsN]
  rw [ih (by omega)]
  congr 1
  obtain ⟨d, rfl⟩ : ∃ d, m = n + (1 + d) := ⟨m - n - 1, by omega⟩
  rw [Nat.pow_add, Nat.mod_mul_right_div_self, Nat.pow_add, Nat.pow_one, Nat.mod_mul_right_mod]
theorem bitsN_num (l : List Bool) : bitsN l.length (num l) = l := by
 induction l with
 | nil => rfl
 | cons b r ih =>
  have hb : b.toNat ≤ 1 := by cases b <;> simp
  have hp : 0 < 2 ^ r.length := Nat.two_pow_pos _
  have hlt := num_lt r
  simp only [List.length_cons, bitsN]
  rw [num_cons]
  congr 1
  ·rw [Nat.mul_comm, Nat.mul_add_div hp, Nat.div_eq_of_lt hlt]
   cases b <;> rfl
  ·have : bitsN r.length (b.toNat * 2 ^ r.length + num r) = bitsN r.length ((b.toNat * 2 ^ r.length + num r) % 2 ^ r.length) := (bitsN_mod _ _ _ (Nat.le_refl _)).symm
   rw [this, Nat.mul_comm, Nat.mul_add_mod, Nat.mod_eq_of_lt hlt, ih]
def bits8 (x : UInt8) : List Bool := bitsN 8 x.toNat
theorem bits8_len (x : UInt8) : (bits8 x).length = 8 := bitsN_len _ _
def bitsB (b : List UInt8) : List Bool := b.flatMap bits8
theorem bitsB_nil : bitsB [] = [] := rfl
theorem bitsB_cons (x : UInt8) (r : List UInt8) : bitsB (x :: r) = bits8 x ++ bitsB r := by simp [bitsB]
theorem bitsB_len (b : List UInt8) : (bitsB b).length = 8 * b.length := by
 induction b with
 | nil => rfl
 | cons x r ih => rw [bitsB_cons, List.length_append, bits8_len, ih, List.length_cons]; omega
def chunks6 (l : List Bool) : List Nat :=
 if _h : l = [] then [] else num (l.take 6 ++ List.replicate (6 - l.length) false) :: chunks6 (l.drop 6)
termination_by l.length
decreasing_by
 have : 0 < l.length := List.length_pos_iff.2 _h
 simp only [List.length_drop]; omega
theorem chunks6_nil : chunks6 [] = [] := by unfold chunks6; simp
theorem chunks6_six (p r : List Bool) (hp : p.length = 6) : chunks6 (p ++ r) = num p :: chunks6 r := by
 have hne : p ++ r ≠ [] := by intro h; have := congrArg List.length h; simp [hp] at this
 rw [chunks6, dif_neg hne]
 have h1 : (p ++ r).take 6 = p := by rw [List.take_append_of_le_length (by omega), List.take_of_length_le (by omega)]
 have h2 : (p ++ r).drop 6 = r := by rw [← hp, List.drop_left]
 have h3 : 6 - (p ++ r).length = 0 := by simp [hp]
 rw [h1, h2, h3]; simp
theorem chunks6_short (p : List Bool) (h0 : 0 < p.length) (h6 : p.length < 6) : chunks6 p = [num p * 2 ^ (6 - p.length)] := by
 have hne : p ≠ [] := List.length_pos_iff.1 h0
 rw [chunks6, dif_neg hne, List.take_of_length_le (by omega), List.drop_eq_nil_of_le (by omega), chunks6_nil, num_append]
 have : ∀ n, num (List.replicate n false) = 0 := by
  intro n
  induction n with
  | zero => rfl
  | succ n ih => rw [List.replicate_succ, num_cons, ih]; simp
 rw [this, List.length_replicate]; simp
theorem chunks6_len (l : List Bool) : (chunks6 l).length ≤ l.length := by
 induction h : l.length using Nat.strongRecOn generalizing l with
 | _ n ih =>
  rw [chunks6]
  split
  ·simp
  ·rename_i hne
   have h0 : 0 < l.length := List.length_pos_iff.2 hne
   have hd : (l.drop 6).length = l.length - 6 := List.length_drop
   have := ih (l.drop 6).length (by omega) (l.drop 6) rfl
   simp only [List.length_cons]; omega
theorem bitsN_get (v : Nat) : ∀ (n i : Nat), i < n → (bitsN n v)[i]? = some (v / 2 ^ (n - 1 - i) % 2 == 1)
 | 0, i, h => by omega
 | n + 1, 0, h => by simp [bitsN]
 | n + 1, i + 1, h => by
  rw [bitsN, List.getElem?_cons_succ, bitsN_get v n i (by omega), show n + 1 - 1 - (i + 1) = n - 1 - i by omega]
theorem bitsB_get (b : List UInt8) : ∀ (i : Nat) (x : UInt8), b[i / 8]? = some x → (bitsB b)[i]? = some (x.toNat / 2 ^ (7 - i % 8) % 2 == 1) := by
 induction b with
 | nil => intro i x h; simp at h
 | cons y r ih =>
  intro i x h
  rw [bitsB_cons]
  by_cases hi : i < 8
  ·rw [show i / 8 = 0 by omega, List.getElem?_cons_zero] at h
   cases h
   rw [List.getElem?_append_left (by rw [bits8_len]; exact hi), bits8, bitsN_get _ 8 i hi, show i % 8 = i by omega]
  ·rw [List.getElem?_append_right (by rw [bits8_len]; omega), bits8_len]
   obtain ⟨j, rfl⟩ : ∃ j, i = j + 8 := ⟨i - 8, by omega⟩
   rw [show (j + 8) / 8 = j / 8 + 1 by omega, List.getElem?_cons_succ] at h
   rw [show j + 8 - 8 = j by omega, ih j x h, show (j + 8) % 8 = j % 8 by omega]
theorem num_snoc (a : List Bool) (b : Bool) : num (a ++ [b]) = 2 * num a + b.toNat := by
 rw [num_append, num_cons, num_nil]; simp; omega
end Go.Ab

namespace Go.Proofs.YtemmlldpmgfblaaGreatDoor
open Go.Ab
attribute [local irreducible] Go.Ab.tyAV Go.Ab.aw Go.Ab.aops Go.Ab.kReg Go.Ab.aThen Go.Ab.aBlk Go.Ab.acond Go.Ab.aguard Go.Ab.astep Go.Ab.AStepX Go.Ab.aRet
theorem i64_and63 (x : Int) (h0 : 0 ≤ x) (h1 : x ≤ 9223372036854775807) : bits .and .i64 x 63 = x % 64 :=
 bits_mask .i64 63 (by decide) (fun n a b => wrap_i64 (by omega) (by omega)) 6 (by decide) x h0 (by omega)
def alph64 : List UInt8 := [65, 66, 67, 68, 69, 70, 71, 72, 73, 74, 75, 76, 77, 78, 79, 80, 81, 82, 83, 84, 85, 86, 87, 88, 89, 90, 97, 98, 99, 100, 101, 102, 103, 104, 105, 106, 107, 108, 109, 110, 111, 112, 113, 114, 115, 116, 117, 118, 119, 120, 121, 122, 48, 49, 50, 51, 52, 53, 54, 55, 56, 57, 45, 95]
def alph (v : Nat) : UInt8 := alph64.getD v 0
theorem alph_get (v : Nat) (h : v < 64) : ∀ h : v < ([65, 66, 67, 68, 69, 70, 71, 72, 73, 74, 75, 76, 77, 78, 79, 80, 81, 82, 83, 84, 85, 86, 87, 88, 89, 90, 97, 98, 99, 100, 101, 102, 103, 104, 105, 106, 107, 108, 109, 110, 111, 112, 113, 114, 115, 116, 117, 118, 119, 120, 121, 122, 48, 49, 50, 51, 52, 53, 54, 55, 56, 57, 45, 95] : List UInt8).length, ([65, 66, 67, 68, 69, 70, 71, 72, 73, 74, 75, 76, 77, 78, 79, 80, 81, 82, 83, 84, 85, 86, 87, 88, 89, 90, 97, 98, 99, 100, 101, 102, 103, 104, 105, 106, 107, 108, 109, 110, 111, 112, 113, 114, 115, 116, 117, 118, 119, 120, 121, 122, 48, 49, 50, 51, 52, 53, 54, 55, 56, 57, 45, 95] : List UInt8)[v] = alph v := by
 intro h2
 have hl : v < alph64.length := h
 have : alph64[v] = alph v := by rw [alph, List.getD_eq_getElem?_getD, List.getElem?_eq_getElem hl]; rfl
 exact this
def textS (b : List UInt8) : List UInt8 := (chunks6 (bitsB b)).map alph
theorem take_num (p : List Bool) (r n : Nat) (hn : p.length = n + 6) (hr : r % 2 ^ (n + 6) = num p) : r / 2 ^ n % 64 = num (p.take 6) ∧ r % 2 ^ n = num (p.drop 6) := by
 have h1 := num_append (p.take 6) (p.drop 6)
 rw [List.take_append_drop] at h1
 have hl : (p.drop 6).length = n := by simp; omega
 have hlt := num_lt (p.drop 6)
 rw [hl] at h1 hlt
 have hp : 0 < 2 ^ n := Nat.two_pow_pos _
 rw [h1] at hr
 have e1 : r % 2 ^ n = num (p.drop 6) := by
  have : r % 2 ^ (n + 6) % 2 ^ n = r % 2 ^ n := by rw [Nat.pow_add, Nat.mod_mul_right_mod]
  rw [← this, hr, Nat.mul_comm, Nat.mul_add_mod, Nat.mod_eq_of_lt hlt]
 have e2 : r / 2 ^ n % 64 = r % 2 ^ (n + 6) / 2 ^ n := by rw [Nat.pow_add, Nat.mod_mul_right_div_self]
 rw [e2, hr, Nat.mul_comm, Nat.mul_add_div hp, Nat.div_eq_of_lt hlt]
 exact ⟨rfl, e1⟩
theorem i64_or8 (r x : Nat) (hr : r < 1000000) (hx : x < 256) : bits .or .i64 ((r : Int) * 256) x = ((r * 256 + x : Nat) : Int) := by
 have h : bits .or .i64 ((r : Int) * 256) x = (r : Int) * 256 + x := bits_join .i64 63 (by decide) (fun n a b => wrap_i64 (by omega) (by omega)) 8 ((r : Int) * 256) x (by omega) (by omega) (by omega) (by omega) (by omega) (by omega)
 rw [h]; omega
def textOf (l : List Bool) : List UInt8 := (chunks6 l).map alph
theorem textS_len (b : List UInt8) : (textS b).length ≤ 8 * b.length := by
 have := chunks6_len (bitsB b)
 rw [bitsB_len] at this
 simp only [textS, List.length_map]; exact this
theorem acc_len {acc t : List UInt8} {b : List UInt8} (h : acc ++ t = textS b) : acc.length ≤ 8 * b.length := by
 have h1 := congrArg List.length h
 have h2 := textS_len b
 rw [List.length_append] at h1
 omega
theorem textOf_nil : textOf [] = [] := by simp [textOf, chunks6_nil]
theorem textOf_six (p r : List Bool) (hp : 6 ≤ p.length) : textOf (p ++ r) = alph (num (p.take 6)) :: textOf (p.drop 6 ++ r) := by
 have h : p ++ r = p.take 6 ++ (p.drop 6 ++ r) := by rw [← List.append_assoc, List.take_append_drop]
 rw [h, textOf, chunks6_six _ _ (by simp; omega)]; rfl
theorem textOf_short (p : List Bool) (h0 : 0 < p.length) (h6 : p.length < 6) : textOf p = [alph (num p * 2 ^ (6 - p.length))] := by
 rw [textOf, chunks6_short p h0 h6]; rfl
theorem bitsB_drop {b : List UInt8} {u : Nat} {x : UInt8} (h : u < b.length) (hx : b[u] = x) : bitsB (b.drop u) = bits8 x ++ bitsB (b.drop (u + 1)) := by
 rw [List.drop_eq_getElem_cons h, hx, bitsB_cons]
theorem num_bits8 (x : UInt8) : num (bits8 x) = x.toNat := by
 rw [bits8, num_bitsN, Nat.mod_eq_of_lt x.toNat_lt]
theorem push8 (p : List Bool) (r : Nat) (x : UInt8) (h : r % 2 ^ p.length = num p) : (r * 256 + x.toNat) % 2 ^ (p ++ bits8 x).length = num (p ++ bits8 x) := by
 have hx := x.toNat_lt
 rw [num_append, num_bits8, List.length_append, bits8_len, ← h, Nat.add_comm p.length 8, Nat.pow_add, Nat.mod_mul, Nat.mul_comm r, Nat.mul_comm (r % 2 ^ p.length)]
 have e1 : (256 * r + x.toNat) % 2 ^ 8 = x.toNat := by omega
 have e2 : (256 * r + x.toNat) / 2 ^ 8 = r := by omega
 rw [e1, e2]; omega
theorem enc_long (b : List UInt8) (hl : 4096 < b.length) (hl2 : b.length ≤ 9223372036854775807) (k : Nat) :
  ACall Tryz.prog 63 [.slice none (b.map byteAV)] k [] (.tup [strAV [], .lit (.int .i64 2)]) [] := by
 have h2 : (4096 : Int) < b.length := by omega
 have hs : strAV [] = .lit (.string ⟨#[]⟩) := rfl
 refine Bd Tryz.func63 Tryz.ntmps63 fun σ N hp hpn hk hkn hfree => ?_
 refine Wk ?_
 exact W0
theorem enc_core (b : List UInt8) (hl : b.length ≤ 4096) (k : Nat) :
  ACall Tryz.prog 63 [.slice none (b.map byteAV)] k [] (.tup [strAV (textS b), .lit (.int .i64 0)]) [] := by
 have h2 : ¬ (4096 : Int) < b.length := by omega
 refine Bd Tryz.func63 Tryz.ntmps63 fun σ N hp hpn hk hkn hfree => ?_
 refine Wk ?_
 refine ALoop.nilrow 4 5 1 (by simp (disch := omega) [go_sem, *, -List.reduceReplicate]) ?_
 refine go_loop (aloop mixed (by kernel_rfl) (fun c => ∃ (u r rid : Nat) (p : List Bool) (acc : List UInt8), c.s 12 = .slice none (b.map byteAV) ∧ c.s 13 = .lit (.int .i64 b.length) ∧ c.s 14 = .lit (.int .i64 u) ∧ u ≤ b.length ∧ c.s 5 = .lit (.int .i64 r) ∧ c.s 6 = .lit (.int .i64 p.length) ∧ c.s 4 = .slice (some rid) (acc.map byteAV) ∧ c.σ rid = .row 5 1 acc.length ∧ N ≤ rid ∧ rid < c.n ∧ N ≤ c.n ∧ (∀ id, id < N → c.σ id = σ id) ∧ p.length < 6 ∧ p.length % 2 = 0 ∧ r < 64 ∧ r % 2 ^ p.length = num p ∧ acc ++ textOf (p ++ bitsB (b.drop u)) = textS b)
  (fun c => match c.s 14 with | .lit (.int _ m) => b.length - m.toNat | _ => 0) ⟨0, 0, _, [], [], by simp (disch := omega) [go_sem, *, -List.reduceReplicate], by simp (disch := omega) [go_sem, *, -List.reduceReplicate], by simp (disch := omega) [go_sem, *, -List.reduceReplicate], by omega, by simp (disch := omega) [go_sem, *, -List.reduceReplicate], by simp (disch := omega) [go_sem, *, -List.reduceReplicate], by simp (disch := omega) [go_sem, *, -List.reduceReplicate]; rfl, by simp (disch := omega) [go_sem, *, -List.reduceReplicate], by omega, by simp only; omega, by simp only; omega, (fun id hid => by simp (disch := omega) only [upd_ne]; try exact hlow id hid), by simp, by simp, by omega, by simp [num_nil], by simp [textOf, textS]⟩ ?_)
 rintro ⟨s, σ', n'⟩ ⟨u, r, rid, p, acc, h12, h13, h14, hu, h5, h6, h4, hr, hNr, hrn, hn', hlow, hp6, hp2, hr64, hrp, htot⟩
 simp only at h12 h13 h14 h5 h6 h4 hr hNr hrn hn' hlow
 by_cases hul : u = b.length
 ·subst hul
  rw [List.drop_length, bitsB_nil, List.append_nil] at htot
  have hal := acc_len htot
  have hcases : p.length = 0 ∨ p.length = 2 ∨ p.length = 4 := by omega
  rcases hcases with h | h | h
  ·have hp0 : p = [] := List.length_eq_zero_iff.1 h
   subst hp0
   rw [textOf_nil, List.append_nil] at htot
   subst htot
   clear h
   have hstr : strAV (textS b) = .lit (.string ⟨(textS b).toArray⟩) := rfl
   generalize textS b = acc at *
   refine Wk ?_
   exact W0
  ·have hrp2 : r * 16 % 64 = num p * 16 := by rw [← hrp, h]; simp only [Nat.reducePow]; omega
   rw [textOf_short p (by omega) (by omega), h] at htot
   simp only [Nat.reduceSub, Nat.reducePow] at htot
   rw [← hrp2] at htot
   have hn64 : r * 16 % 64 < 64 := Nat.mod_lt _ (by omega)
   have hget := alph_get _ hn64
   have hand := i64_and63 ((r : Int) * 16) (by omega) (by omega)
   rw [show ((r : Int) * 16 % 64) = ((r * 16 % 64 : Nat) : Int) by omega] at hand
   generalize r * 16 % 64 = V6 at *
   have hby : byteAV (alph V6) = .lit (.int .u8 (alph V6).toNat) := rfl
   generalize alph V6 = ch at *
   have h6' : s 6 = .lit (.int .i64 2) := by rw [h6, h]; rfl
   clear h6 hrp hrp2
   rw [← htot]
   have hstr : strAV (acc ++ [ch]) = .lit (.string ⟨(acc ++ [ch]).toArray⟩) := rfl
   clear htot
   refine Wk ?_
   exact W0
  ·have hrp2 : r * 4 % 64 = num p * 4 := by rw [← hrp, h]; simp only [Nat.reducePow]; omega
   rw [textOf_short p (by omega) (by omega), h] at htot
   simp only [Nat.reduceSub, Nat.reducePow] at htot
   rw [← hrp2] at htot
   have hn64 : r * 4 % 64 < 64 := Nat.mod_lt _ (by omega)
   have hget := alph_get _ hn64
   have hand := i64_and63 ((r : Int) * 4) (by omega) (by omega)
   rw [show ((r : Int) * 4 % 64) = ((r * 4 % 64 : Nat) : Int) by omega] at hand
   generalize r * 4 % 64 = V6 at *
   have hby : byteAV (alph V6) = .lit (.int .u8 (alph V6).toNat) := rfl
   generalize alph V6 = ch at *
   have h6' : s 6 = .lit (.int .i64 4) := by rw [h6, h]; rfl
   clear h6 hrp hrp2
   rw [← htot]
   have hstr : strAV (acc ++ [ch]) = .lit (.string ⟨(acc ++ [ch]).toArray⟩) := rfl
   clear htot
   refine Wk ?_
   exact W0
 ·have hu2 : u < b.length := by omega
  obtain ⟨x, hx⟩ : ∃ x, b[u] = x := ⟨_, rfl⟩
  rw [bitsB_drop hu2 hx, ← List.append_assoc] at htot
  have hpush := push8 p r x hrp
  have hx256 := x.toNat_lt
  have hor := i64_or8 r x.toNat (by omega) (by omega)
  have hbx : byteAV x = .lit (.int .u8 x.toNat) := rfl
  have hpl : (p ++ bits8 x).length = p.length + 8 := by rw [List.length_append, bits8_len]
  have hr2 : r * 256 + x.toNat < 16384 := by omega
  have hp5 : p.length ≤ 4 := by omega
  generalize p ++ bits8 x = q at htot hpush hpl
  generalize r * 256 + x.toNat = r2 at hor hpush hr2
  clear hrp
  refine Wk ?_
  refine go_loop (aloop mixed (by kernel_rfl) (fun c => ∃ (rid : Nat) (q : List Bool) (acc : List UInt8), c.s 12 = .slice none (b.map byteAV) ∧ c.s 13 = .lit (.int .i64 b.length) ∧ c.s 14 = .lit (.int .i64 u) ∧ c.s 5 = .lit (.int .i64 r2) ∧ c.s 6 = .lit (.int .i64 q.length) ∧ c.s 4 = .slice (some rid) (acc.map byteAV) ∧ c.σ rid = .row 5 1 acc.length ∧ N ≤ rid ∧ rid < c.n ∧ N ≤ c.n ∧ (∀ id, id < N → c.σ id = σ id) ∧ q.length ≤ 12 ∧ q.length % 2 = 0 ∧ r2 % 2 ^ q.length = num q ∧ acc ++ textOf (q ++ bitsB (b.drop (u + 1))) = textS b)
   (fun c => match c.s 6 with | .lit (.int _ m) => m.toNat | _ => 0) ⟨rid, q, acc, by simp (disch := omega) [go_sem, *, -List.reduceReplicate], by simp (disch := omega) [go_sem, *, -List.reduceReplicate], by simp (disch := omega) [go_sem, *, -List.reduceReplicate], by simp (disch := omega) [go_sem, *, -List.reduceReplicate], by simp (disch := omega) [go_sem, *, -List.reduceReplicate], by simp (disch := omega) [go_sem, *, -List.reduceReplicate], by simp (disch := omega) [go_sem, *, -List.reduceReplicate], by omega, by simp only; omega, by simp only; omega, (fun id hid => by simp (disch := omega) only; try exact hlow id hid), by omega, by omega, hpush, htot⟩ ?_)
  clear htot hpush hlow hr hor hbx hpl hp5 hp2 hp6 h4 h6 h5
  rintro ⟨s, σ', n'⟩ ⟨rid, q, acc, h12, h13, h14, h5, h6, h4, hr, hNr, hrn, hn', hlow, hq12, hq2, hrq, htot⟩
  simp only at h12 h13 h14 h5 h6 h4 hr hNr hrn hn' hlow
  by_cases hq6 : q.length < 6
  ·have hq6i : (q.length : Int) < 6 := by omega
   have hand := i64_and63 r2 (by omega) (by omega)
   have hand2 : ((r2 : Int) % 64) = ((r2 % 64 : Nat) : Int) := by omega
   have hmod : r2 % 64 % 2 ^ q.length = num q := by
    rw [← hrq]
    have : q.length = 0 ∨ q.length = 2 ∨ q.length = 4 := by omega
    rcases this with h | h | h <;> rw [h] <;> omega
   have hr64' : r2 % 64 < 64 := by omega
   rw [hand2] at hand
   clear hand2 hrq
   generalize r2 % 64 = r3 at *
   refine Wk ?_
   refine ⟨⟨u + 1, r3, rid, q, acc, by simp (disch := omega) [go_sem, *, -List.reduceReplicate], by simp (disch := omega) [go_sem, *, -List.reduceReplicate], by simp (disch := omega) [go_sem, *, -List.reduceReplicate], by omega, by simp (disch := omega) [go_sem, *, -List.reduceReplicate], by simp (disch := omega) [go_sem, *, -List.reduceReplicate], by simp (disch := omega) [go_sem, *, -List.reduceReplicate], by simp (disch := omega) [go_sem, *, -List.reduceReplicate], by omega, by simp only; omega, by simp only; omega, (fun id hid => by simp (disch := omega) only; try exact hlow id hid), hq6, hq2, hr64', hmod, htot⟩, ?_⟩
   simp (disch := omega) [go_sem, *, -List.reduceReplicate]
   omega
  ·have hal := acc_len htot
   have hsix := textOf_six q (bitsB (b.drop (u + 1))) (by omega)
   rw [hsix] at htot
   have hcases : q.length = 6 ∨ q.length = 8 ∨ q.length = 10 ∨ q.length = 12 := by omega
   clear hsix hq6
   rcases hcases with h | h | h | h
   ·rw [h] at hrq
    have htk := take_num q r2 0 h hrq
    have hql : (q.drop 6).length = 0 := by rw [List.length_drop, h]
    have hdr : r2 % 2 ^ (q.drop 6).length = num (q.drop 6) := by rw [hql]; exact htk.2
    have htk1 := htk.1
    simp only [Nat.reducePow, Nat.div_one] at htk1
    rw [← htk1] at htot
    have hn64 : (r2) % 64 < 64 := Nat.mod_lt _ (by omega)
    have hv : (r2 : Int).fdiv 1 = ((r2 : Nat) : Int) := by rw [Int.fdiv_eq_ediv_of_nonneg _ (by omega)]; omega
    have hle : r2 < 16384 := by omega
    have hget := alph_get _ hn64
    generalize r2 = V at *
    have hand := i64_and63 (V : Int) (by omega) (by omega)
    rw [show ((V : Int) % 64) = ((V % 64 : Nat) : Int) by omega] at hand
    generalize V % 64 = V6 at *
    have hby : byteAV (alph V6) = .lit (.int .u8 (alph V6).toNat) := rfl
    generalize alph V6 = ch at *
    generalize q.drop 6 = q' at *
    clear htk htk1 hrq
    have h6' : s 6 = .lit (.int .i64 6) := by rw [h6, h]; rfl
    clear h6
    refine Wk ?_
    refine ⟨⟨rid, q', acc ++ [ch], by simp (disch := omega) [go_sem, *, -List.reduceReplicate], by simp (disch := omega) [go_sem, *, -List.reduceReplicate], by simp (disch := omega) [go_sem, *, -List.reduceReplicate], by simp (disch := omega) [go_sem, *, -List.reduceReplicate], by simp (disch := omega) [go_sem, *, -List.reduceReplicate], by simp (disch := omega) [go_sem, *, -List.reduceReplicate], by simp (disch := omega) [go_sem, *, -List.reduceReplicate], by omega, by simp only; omega, by simp only; omega, (fun id hid => by simp (disch := omega) only [upd_ne]; try exact hlow id hid), by omega, by omega, hdr, by rw [List.append_assoc]; exact htot⟩, ?_⟩
    simp (disch := omega) [go_sem, *, -List.reduceReplicate]
   ·rw [h] at hrq
    have htk := take_num q r2 2 h hrq
    have hql : (q.drop 6).length = 2 := by rw [List.length_drop, h]
    have hdr : r2 % 2 ^ (q.drop 6).length = num (q.drop 6) := by rw [hql]; exact htk.2
    have htk1 := htk.1
    simp only [Nat.reducePow] at htk1
    rw [← htk1] at htot
    have hn64 : (r2 / 4) % 64 < 64 := Nat.mod_lt _ (by omega)
    have hv : (r2 : Int).fdiv 4 = ((r2 / 4 : Nat) : Int) := by rw [Int.fdiv_eq_ediv_of_nonneg _ (by omega)]; omega
    have hle : r2 / 4 < 16384 := by omega
    have hget := alph_get _ hn64
    generalize r2 / 4 = V at *
    have hand := i64_and63 (V : Int) (by omega) (by omega)
    rw [show ((V : Int) % 64) = ((V % 64 : Nat) : Int) by omega] at hand
    generalize V % 64 = V6 at *
    have hby : byteAV (alph V6) = .lit (.int .u8 (alph V6).toNat) := rfl
    generalize alph V6 = ch at *
    generalize q.drop 6 = q' at *
    clear htk htk1 hrq
    have h6' : s 6 = .lit (.int .i64 8) := by rw [h6, h]; rfl
    clear h6
    refine Wk ?_
    refine ⟨⟨rid, q', acc ++ [ch], by simp (disch := omega) [go_sem, *, -List.reduceReplicate], by simp (disch := omega) [go_sem, *, -List.reduceReplicate], by simp (disch := omega) [go_sem, *, -List.reduceReplicate], by simp (disch := omega) [go_sem, *, -List.reduceReplicate], by simp (disch := omega) [go_sem, *, -List.reduceReplicate], by simp (disch := omega) [go_sem, *, -List.reduceReplicate], by simp (disch := omega) [go_sem, *, -List.reduceReplicate], by omega, by simp only; omega, by simp only; omega, (fun id hid => by simp (disch := omega) only [upd_ne]; try exact hlow id hid), by omega, by omega, hdr, by rw [List.append_assoc]; exact htot⟩, ?_⟩
    simp (disch := omega) [go_sem, *, -List.reduceReplicate]
   ·rw [h] at hrq
    have htk := take_num q r2 4 h hrq
    have hql : (q.drop 6).length = 4 := by rw [List.length_drop, h]
    have hdr : r2 % 2 ^ (q.drop 6).length = num (q.drop 6) := by rw [hql]; exact htk.2
    have htk1 := htk.1
    simp only [Nat.reducePow] at htk1
    rw [← htk1] at htot
    have hn64 : (r2 / 16) % 64 < 64 := Nat.mod_lt _ (by omega)
    have hv : (r2 : Int).fdiv 16 = ((r2 / 16 : Nat) : Int) := by rw [Int.fdiv_eq_ediv_of_nonneg _ (by omega)]; omega
    have hle : r2 / 16 < 16384 := by omega
    have hget := alph_get _ hn64
    generalize r2 / 16 = V at *
    have hand := i64_and63 (V : Int) (by omega) (by omega)
    rw [show ((V : Int) % 64) = ((V % 64 : Nat) : Int) by omega] at hand
    generalize V % 64 = V6 at *
    have hby : byteAV (alph V6) = .lit (.int .u8 (alph V6).toNat) := rfl
    generalize alph V6 = ch at *
    generalize q.drop 6 = q' at *
    clear htk htk1 hrq
    have h6' : s 6 = .lit (.int .i64 10) := by rw [h6, h]; rfl
    clear h6
    refine Wk ?_
    refine ⟨⟨rid, q', acc ++ [ch], by simp (disch := omega) [go_sem, *, -List.reduceReplicate], by simp (disch := omega) [go_sem, *, -List.reduceReplicate], by simp (disch := omega) [go_sem, *, -List.reduceReplicate], by simp (disch := omega) [go_sem, *, -List.reduceReplicate], by simp (disch := omega) [go_sem, *, -List.reduceReplicate], by simp (disch := omega) [go_sem, *, -List.reduceReplicate], by simp (disch := omega) [go_sem, *, -List.reduceReplicate], by omega, by simp only; omega, by simp only; omega, (fun id hid => by simp (disch := omega) only [upd_ne]; try exact hlow id hid), by omega, by omega, hdr, by rw [List.append_assoc]; exact htot⟩, ?_⟩
    simp (disch := omega) [go_sem, *, -List.reduceReplicate]
   ·rw [h] at hrq
    have htk := take_num q r2 6 h hrq
    have hql : (q.drop 6).length = 6 := by rw [List.length_drop, h]
    have hdr : r2 % 2 ^ (q.drop 6).length = num (q.drop 6) := by rw [hql]; exact htk.2
    have htk1 := htk.1
    simp only [Nat.reducePow] at htk1
    rw [← htk1] at htot
    have hn64 : (r2 / 64) % 64 < 64 := Nat.mod_lt _ (by omega)
    have hv : (r2 : Int).fdiv 64 = ((r2 / 64 : Nat) : Int) := by rw [Int.fdiv_eq_ediv_of_nonneg _ (by omega)]; omega
    have hle : r2 / 64 < 16384 := by omega
    have hget := alph_get _ hn64
    generalize r2 / 64 = V at *
    have hand := i64_and63 (V : Int) (by omega) (by omega)
    rw [show ((V : Int) % 64) = ((V % 64 : Nat) : Int) by omega] at hand
    generalize V % 64 = V6 at *
    have hby : byteAV (alph V6) = .lit (.int .u8 (alph V6).toNat) := rfl
    generalize alph V6 = ch at *
    generalize q.drop 6 = q' at *
    clear htk htk1 hrq
    have h6' : s 6 = .lit (.int .i64 12) := by rw [h6, h]; rfl
    clear h6
    refine Wk ?_
    refine ⟨⟨rid, q', acc ++ [ch], by simp (disch := omega) [go_sem, *, -List.reduceReplicate], by simp (disch := omega) [go_sem, *, -List.reduceReplicate], by simp (disch := omega) [go_sem, *, -List.reduceReplicate], by simp (disch := omega) [go_sem, *, -List.reduceReplicate], by simp (disch := omega) [go_sem, *, -List.reduceReplicate], by simp (disch := omega) [go_sem, *, -List.reduceReplicate], by simp (disch := omega) [go_sem, *, -List.reduceReplicate], by omega, by simp only; omega, by simp only; omega, (fun id hid => by simp (disch := omega) only [upd_ne]; try exact hlow id hid), by omega, by omega, hdr, by rw [List.append_assoc]; exact htot⟩, ?_⟩
    simp (disch := omega) [go_sem, *, -List.reduceReplicate]

def padded (b : List UInt8) (at_ : Nat) : List Bool := (bitsB b).drop at_ ++ List.replicate 6 false
theorem padded_take6 (b : List UInt8) (at_ : Nat) (h : at_ < 8 * b.length) : textOf ((bitsB b).drop at_) = alph (num ((padded b at_).take 6)) :: textOf ((bitsB b).drop (at_ + 6)) := by
 have hl := bitsB_len b
 have hd : ((bitsB b).drop at_).length = 8 * b.length - at_ := by rw [List.length_drop, hl]
 have hne : (bitsB b).drop at_ ≠ [] := by intro hh; rw [hh] at hd; simp at hd; omega
 rw [textOf, chunks6, dif_neg hne, List.map_cons, List.drop_drop, textOf]
 congr 3
 rw [padded, List.take_append, List.take_replicate]
 congr 2
 omega
theorem padded_succ (b : List UInt8) (at_ t : Nat) (_ht : t < 6) (c : Bool) (hc : (padded b at_)[t]? = some c) : num ((padded b at_).take (t + 1)) = 2 * num ((padded b at_).take t) + c.toNat := by
 rw [List.take_add_one, hc]; exact num_snoc _ _
theorem padded_in (b : List UInt8) (at_ t : Nat) (x : UInt8) (h : at_ + t < 8 * b.length) (hx : b[(at_ + t) / 8]? = some x) : (padded b at_)[t]? = some (x.toNat / 2 ^ (7 - (at_ + t) % 8) % 2 == 1) := by
 have hl := bitsB_len b
 rw [padded, List.getElem?_append_left (by rw [List.length_drop, hl]; omega), List.getElem?_drop, bitsB_get b _ x hx]
theorem padded_out (b : List UInt8) (at_ t : Nat) (h : ¬ at_ + t < 8 * b.length) (ht : t < 6) : (padded b at_)[t]? = some false := by
 have hl := bitsB_len b
 rw [padded, List.getElem?_append_right (by rw [List.length_drop, hl]; omega), List.length_drop, hl, List.getElem?_replicate, if_pos (by omega)]
theorem text_long (b : List UInt8) (hl : 4096 < b.length) (hl2 : b.length ≤ 9223372036854775807) (k : Nat) :
  ACall Tryz.prog 48 [.slice none (b.map byteAV)] k [] (.tup [strAV [], .lit (.int .i64 2)]) [] := by
 have h2 : (4096 : Int) < b.length := by omega
 have hs : strAV [] = .lit (.string ⟨#[]⟩) := rfl
 refine Bd Tryz.func48 Tryz.ntmps48 fun σ N hp hpn hk hkn hfree => ?_
 refine Wk ?_
 exact W0
set_option maxHeartbeats 4000000 in
theorem text_core (b : List UInt8) (hl : b.length ≤ 4096) (k : Nat) :
  ACall Tryz.prog 48 [.slice none (b.map byteAV)] k [] (.tup [strAV (textS b), .lit (.int .i64 0)]) [] := by
 have h2 : ¬ (4096 : Int) < b.length := by omega
 refine Bd Tryz.func48 Tryz.ntmps48 fun σ N hp hpn hk hkn hfree => ?_
 refine Wk ?_
 refine ALoop.nilrow 4 5 1 (by simp (disch := omega) [go_sem, *, -List.reduceReplicate]) ?_
 refine go_loop (aloop mixed (by kernel_rfl) (fun c => ∃ (at_ rid : Nat) (acc : List UInt8), c.s 0 = .slice none (b.map byteAV) ∧ c.s 5 = .lit (.int .i64 at_) ∧ at_ ≤ 8 * b.length + 6 ∧ c.s 4 = .slice (some rid) (acc.map byteAV) ∧ c.σ rid = .row 5 1 acc.length ∧ N ≤ rid ∧ rid < c.n ∧ N ≤ c.n ∧ (∀ id, id < N → c.σ id = σ id) ∧ acc ++ textOf ((bitsB b).drop at_) = textS b)
  (fun c => match c.s 5 with | .lit (.int _ m) => 8 * b.length + 6 - m.toNat | _ => 0) ⟨0, _, [], by simp (disch := omega) [go_sem, *, -List.reduceReplicate], by simp (disch := omega) [go_sem, *, -List.reduceReplicate], by omega, by simp (disch := omega) [go_sem, *, -List.reduceReplicate]; rfl, by simp (disch := omega) [go_sem, *, -List.reduceReplicate], by omega, by simp only; omega, by simp only; omega, (fun id hid => by simp (disch := omega) only [upd_ne]; try exact hlow id hid), by simp [textOf, textS]⟩ ?_)
 rintro ⟨s, σ', n'⟩ ⟨at_, rid, acc, h0, h5, ha, h4, hr, hNr, hrn, hn', hlow, htot⟩
 simp only at h0 h5 h4 hr hNr hrn hn' hlow
 have hal := acc_len htot
 by_cases hat : at_ < 8 * b.length
 ·have hati : (at_ : Int) < 8 * (b.length : Int) := by omega
  rw [padded_take6 b at_ hat] at htot
  refine Wk ?_
  refine go_loop (aloop mixed (by kernel_rfl) (fun c => ∃ (rid t i v : Nat), c.s 0 = .slice none (b.map byteAV) ∧ c.s 5 = .lit (.int .i64 at_) ∧ c.s 7 = .lit (.int .i64 i) ∧ c.s 6 = .lit (.int .i64 v) ∧ at_ + t = i ∧ t ≤ 6 ∧ v = num ((padded b at_).take t) ∧ c.s 4 = .slice (some rid) (acc.map byteAV) ∧ c.σ rid = .row 5 1 acc.length ∧ N ≤ rid ∧ rid < c.n ∧ N ≤ c.n ∧ (∀ id, id < N → c.σ id = σ id))
   (fun c => match c.s 7 with | .lit (.int _ m) => at_ + 6 - m.toNat | _ => 0) ⟨rid, 0, at_, 0, by simp (disch := omega) [go_sem, *, -List.reduceReplicate], by simp (disch := omega) [go_sem, *, -List.reduceReplicate], by simp (disch := omega) [go_sem, *, -List.reduceReplicate], by simp (disch := omega) [go_sem, *, -List.reduceReplicate], by omega, by omega, by rfl, by simp (disch := omega) [go_sem, *, -List.reduceReplicate], by simp (disch := omega) [go_sem, *, -List.reduceReplicate], by omega, by simp only; omega, by simp only; omega, (fun id hid => by simp (disch := omega) only; try exact hlow id hid)⟩ ?_)
  clear hlow hr h4 h0
  rintro ⟨s, σ', n'⟩ ⟨rid, t, i, v, h0, h5, h7, h6, hit, ht6, hv, h4, hr, hNr, hrn, hn', hlow⟩
  simp only at h0 h5 h7 h6 h4 hr hNr hrn hn' hlow
  have hvlt : v < 64 := by
   have h1 := num_lt ((padded b at_).take t)
   rw [← hv, List.length_take] at h1
   have h2 : 2 ^ min t (padded b at_).length ≤ 2 ^ 6 := Nat.pow_le_pow_right (by omega) (by omega)
   omega
  by_cases ht : t = 6
  ·subst ht
   rw [← hv] at htot
   have hget := alph_get v hvlt
   have hby : byteAV (alph v) = .lit (.int .u8 (alph v).toNat) := rfl
   generalize alph v = ch at *
   have hni : ¬ (i : Int) < (at_ : Int) + 6 := by omega
   have hiti : (at_ : Int) + 6 = i := by omega
   clear hv
   refine Wk ?_
   refine ⟨⟨at_ + 6, rid, acc ++ [ch], by simp (disch := omega) [go_sem, *, -List.reduceReplicate], by simp (disch := omega) [go_sem, *, -List.reduceReplicate], by omega, by simp (disch := omega) [go_sem, *, -List.reduceReplicate], by simp (disch := omega) [go_sem, *, -List.reduceReplicate], by omega, by simp only; omega, by simp only; omega, (fun id hid => by simp (disch := omega) only [upd_ne]; try exact hlow id hid), by rw [List.append_assoc]; exact htot⟩, ?_⟩
   simp (disch := omega) [go_sem, *, -List.reduceReplicate]
   omega
  ·have hii : (i : Int) < (at_ : Int) + 6 := by omega
   clear htot
   by_cases hib : i < 8 * b.length
   ·have hibi : (i : Int) < 8 * (b.length : Int) := by omega
    have hi8 : i / 8 < b.length := by omega
    have htd : (i : Int).tdiv 8 = ((i / 8 : Nat) : Int) := by rw [Int.tdiv_eq_ediv_of_nonneg (by omega)]; omega
    obtain ⟨x, hx⟩ : ∃ x, b[i / 8] = x := ⟨_, rfl⟩
    have hxx : b[(at_ + t) / 8]? = some x := by rw [hit, List.getElem?_eq_getElem hi8, hx]
    have hbx : byteAV x = .lit (.int .u8 x.toNat) := rfl
    generalize hj : i / 8 = j at *
    have hmc : i % 8 = 0 ∨ i % 8 = 1 ∨ i % 8 = 2 ∨ i % 8 = 3 ∨ i % 8 = 4 ∨ i % 8 = 5 ∨ i % 8 = 6 ∨ i % 8 = 7 := by omega
    rcases hmc with hm | hm | hm | hm | hm | hm | hm | hm
    ·have hx2 : i % 8 = 0 := hm
     have hc := padded_in b at_ t x (by omega) hxx
     rw [hit, hx2] at hc
     simp only [Nat.reduceSub, Nat.reducePow] at hc
     have hs := padded_succ b at_ t (by omega) _ hc
     rw [beq1_toNat _ (Nat.mod_lt _ (by omega)), ← hv] at hs
     have hxl := x.toNat_lt
     have htm : (i : Int).tmod 8 = 0 := by rw [Int.tmod_eq_emod_of_nonneg (by omega)]; omega
     have hfd : (x.toNat : Int).fdiv 128 = ((x.toNat / 128 : Nat) : Int) := by rw [Int.fdiv_eq_ediv_of_nonneg _ (by omega)]; omega
     have hble : x.toNat / 128 < 256 := by omega
     generalize x.toNat / 128 = w at hs hfd hble
     have htm2 : (w : Int).tmod 2 = ((w % 2 : Nat) : Int) := by rw [Int.tmod_eq_emod_of_nonneg (by omega)]; omega
     have hw2 : w % 2 < 2 := Nat.mod_lt _ (by omega)
     generalize w % 2 = bt at hs htm2 hw2
     clear hc hm hx2 hv hxx
     refine Wk ?_
     refine ⟨⟨rid, t + 1, i + 1, 2 * v + bt, by simp (disch := omega) [go_sem, *, -List.reduceReplicate], by simp (disch := omega) [go_sem, *, -List.reduceReplicate], by simp (disch := omega) [go_sem, *, -List.reduceReplicate], by simp (disch := omega) [go_sem, *, -List.reduceReplicate], by omega, by omega, by rw [hs], by simp (disch := omega) [go_sem, *, -List.reduceReplicate], by simp (disch := omega) [go_sem, *, -List.reduceReplicate], hNr, by simp only; omega, by simp only; omega, (fun id hid => by simp (disch := omega) only; try exact hlow id hid)⟩, ?_⟩
     simp (disch := omega) [go_sem, *, -List.reduceReplicate]
     omega
    ·have hx2 : i % 8 = 1 := hm
     have hc := padded_in b at_ t x (by omega) hxx
     rw [hit, hx2] at hc
     simp only [Nat.reduceSub, Nat.reducePow] at hc
     have hs := padded_succ b at_ t (by omega) _ hc
     rw [beq1_toNat _ (Nat.mod_lt _ (by omega)), ← hv] at hs
     have hxl := x.toNat_lt
     have htm : (i : Int).tmod 8 = 1 := by rw [Int.tmod_eq_emod_of_nonneg (by omega)]; omega
     have hfd : (x.toNat : Int).fdiv 64 = ((x.toNat / 64 : Nat) : Int) := by rw [Int.fdiv_eq_ediv_of_nonneg _ (by omega)]; omega
     have hble : x.toNat / 64 < 256 := by omega
     generalize x.toNat / 64 = w at hs hfd hble
     have htm2 : (w : Int).tmod 2 = ((w % 2 : Nat) : Int) := by rw [Int.tmod_eq_emod_of_nonneg (by omega)]; omega
     have hw2 : w % 2 < 2 := Nat.mod_lt _ (by omega)
     generalize w % 2 = bt at hs htm2 hw2
     clear hc hm hx2 hv hxx
     refine Wk ?_
     refine ⟨⟨rid, t + 1, i + 1, 2 * v + bt, by simp (disch := omega) [go_sem, *, -List.reduceReplicate], by simp (disch := omega) [go_sem, *, -List.reduceReplicate], by simp (disch := omega) [go_sem, *, -List.reduceReplicate], by simp (disch := omega) [go_sem, *, -List.reduceReplicate], by omega, by omega, by rw [hs], by simp (disch := omega) [go_sem, *, -List.reduceReplicate], by simp (disch := omega) [go_sem, *, -List.reduceReplicate], hNr, by simp only; omega, by simp only; omega, (fun id hid => by simp (disch := omega) only; try exact hlow id hid)⟩, ?_⟩
     simp (disch := omega) [go_sem, *, -List.reduceReplicate]
     omega
    ·have hx2 : i % 8 = 2 := hm
     have hc := padded_in b at_ t x (by omega) hxx
     rw [hit, hx2] at hc
     simp only [Nat.reduceSub, Nat.reducePow] at hc
     have hs := padded_succ b at_ t (by omega) _ hc
     rw [beq1_toNat _ (Nat.mod_lt _ (by omega)), ← hv] at hs
     have hxl := x.toNat_lt
     have htm : (i : Int).tmod 8 = 2 := by rw [Int.tmod_eq_emod_of_nonneg (by omega)]; omega
     have hfd : (x.toNat : Int).fdiv 32 = ((x.toNat / 32 : Nat) : Int) := by rw [Int.fdiv_eq_ediv_of_nonneg _ (by omega)]; omega
     have hble : x.toNat / 32 < 256 := by omega
     generalize x.toNat / 32 = w at hs hfd hble
     have htm2 : (w : Int).tmod 2 = ((w % 2 : Nat) : Int) := by rw [Int.tmod_eq_emod_of_nonneg (by omega)]; omega
     have hw2 : w % 2 < 2 := Nat.mod_lt _ (by omega)
     generalize w % 2 = bt at hs htm2 hw2
     clear hc hm hx2 hv hxx
     refine Wk ?_
     refine ⟨⟨rid, t + 1, i + 1, 2 * v + bt, by simp (disch := omega) [go_sem, *, -List.reduceReplicate], by simp (disch := omega) [go_sem, *, -List.reduceReplicate], by simp (disch := omega) [go_sem, *, -List.reduceReplicate], by simp (disch := omega) [go_sem, *, -List.reduceReplicate], by omega, by omega, by rw [hs], by simp (disch := omega) [go_sem, *, -List.reduceReplicate], by simp (disch := omega) [go_sem, *, -List.reduceReplicate], hNr, by simp only; omega, by simp only; omega, (fun id hid => by simp (disch := omega) only; try exact hlow id hid)⟩, ?_⟩
     simp (disch := omega) [go_sem, *, -List.reduceReplicate]
     omega
    ·have hx2 : i % 8 = 3 := hm
     have hc := padded_in b at_ t x (by omega) hxx
     rw [hit, hx2] at hc
     simp only [Nat.reduceSub, Nat.reducePow] at hc
     have hs := padded_succ b at_ t (by omega) _ hc
     rw [beq1_toNat _ (Nat.mod_lt _ (by omega)), ← hv] at hs
     have hxl := x.toNat_lt
     have htm : (i : Int).tmod 8 = 3 := by rw [Int.tmod_eq_emod_of_nonneg (by omega)]; omega
     have hfd : (x.toNat : Int).fdiv 16 = ((x.toNat / 16 : Nat) : Int) := by rw [Int.fdiv_eq_ediv_of_nonneg _ (by omega)]; omega
     have hble : x.toNat / 16 < 256 := by omega
     generalize x.toNat / 16 = w at hs hfd hble
     have htm2 : (w : Int).tmod 2 = ((w % 2 : Nat) : Int) := by rw [Int.tmod_eq_emod_of_nonneg (by omega)]; omega
     have hw2 : w % 2 < 2 := Nat.mod_lt _ (by omega)
     generalize w % 2 = bt at hs htm2 hw2
     clear hc hm hx2 hv hxx
     refine Wk ?_
     refine ⟨⟨rid, t + 1, i + 1, 2 * v + bt, by simp (disch := omega) [go_sem, *, -List.reduceReplicate], by simp (disch := omega) [go_sem, *, -List.reduceReplicate], by simp (disch := omega) [go_sem, *, -List.reduceReplicate], by simp (disch := omega) [go_sem, *, -List.reduceReplicate], by omega, by omega, by rw [hs], by simp (disch := omega) [go_sem, *, -List.reduceReplicate], by simp (disch := omega) [go_sem, *, -List.reduceReplicate], hNr, by simp only; omega, by simp only; omega, (fun id hid => by simp (disch := omega) only; try exact hlow id hid)⟩, ?_⟩
     simp (disch := omega) [go_sem, *, -List.reduceReplicate]
     omega
    ·have hx2 : i % 8 = 4 := hm
     have hc := padded_in b at_ t x (by omega) hxx
     rw [hit, hx2] at hc
     simp only [Nat.reduceSub, Nat.reducePow] at hc
     have hs := padded_succ b at_ t (by omega) _ hc
     rw [beq1_toNat _ (Nat.mod_lt _ (by omega)), ← hv] at hs
     have hxl := x.toNat_lt
     have htm : (i : Int).tmod 8 = 4 := by rw [Int.tmod_eq_emod_of_nonneg (by omega)]; omega
     have hfd : (x.toNat : Int).fdiv 8 = ((x.toNat / 8 : Nat) : Int) := by rw [Int.fdiv_eq_ediv_of_nonneg _ (by omega)]; omega
     have hble : x.toNat / 8 < 256 := by omega
     generalize x.toNat / 8 = w at hs hfd hble
     have htm2 : (w : Int).tmod 2 = ((w % 2 : Nat) : Int) := by rw [Int.tmod_eq_emod_of_nonneg (by omega)]; omega
     have hw2 : w % 2 < 2 := Nat.mod_lt _ (by omega)
     generalize w % 2 = bt at hs htm2 hw2
     clear hc hm hx2 hv hxx
     refine Wk ?_
     refine ⟨⟨rid, t + 1, i + 1, 2 * v + bt, by simp (disch := omega) [go_sem, *, -List.reduceReplicate], by simp (disch := omega) [go_sem, *, -List.reduceReplicate], by simp (disch := omega) [go_sem, *, -List.reduceReplicate], by simp (disch := omega) [go_sem, *, -List.reduceReplicate], by omega, by omega, by rw [hs], by simp (disch := omega) [go_sem, *, -List.reduceReplicate], by simp (disch := omega) [go_sem, *, -List.reduceReplicate], hNr, by simp only; omega, by simp only; omega, (fun id hid => by simp (disch := omega) only; try exact hlow id hid)⟩, ?_⟩
     simp (disch := omega) [go_sem, *, -List.reduceReplicate]
     omega
    ·have hx2 : i % 8 = 5 := hm
     have hc := padded_in b at_ t x (by omega) hxx
     rw [hit, hx2] at hc
     simp only [Nat.reduceSub, Nat.reducePow] at hc
     have hs := padded_succ b at_ t (by omega) _ hc
     rw [beq1_toNat _ (Nat.mod_lt _ (by omega)), ← hv] at hs
     have hxl := x.toNat_lt
     have htm : (i : Int).tmod 8 = 5 := by rw [Int.tmod_eq_emod_of_nonneg (by omega)]; omega
     have hfd : (x.toNat : Int).fdiv 4 = ((x.toNat / 4 : Nat) : Int) := by rw [Int.fdiv_eq_ediv_of_nonneg _ (by omega)]; omega
     have hble : x.toNat / 4 < 256 := by omega
     generalize x.toNat / 4 = w at hs hfd hble
     have htm2 : (w : Int).tmod 2 = ((w % 2 : Nat) : Int) := by rw [Int.tmod_eq_emod_of_nonneg (by omega)]; omega
     have hw2 : w % 2 < 2 := Nat.mod_lt _ (by omega)
     generalize w % 2 = bt at hs htm2 hw2
     clear hc hm hx2 hv hxx
     refine Wk ?_
     refine ⟨⟨rid, t + 1, i + 1, 2 * v + bt, by simp (disch := omega) [go_sem, *, -List.reduceReplicate], by simp (disch := omega) [go_sem, *, -List.reduceReplicate], by simp (disch := omega) [go_sem, *, -List.reduceReplicate], by simp (disch := omega) [go_sem, *, -List.reduceReplicate], by omega, by omega, by rw [hs], by simp (disch := omega) [go_sem, *, -List.reduceReplicate], by simp (disch := omega) [go_sem, *, -List.reduceReplicate], hNr, by simp only; omega, by simp only; omega, (fun id hid => by simp (disch := omega) only; try exact hlow id hid)⟩, ?_⟩
     simp (disch := omega) [go_sem, *, -List.reduceReplicate]
     omega
    ·have hx2 : i % 8 = 6 := hm
     have hc := padded_in b at_ t x (by omega) hxx
     rw [hit, hx2] at hc
     simp only [Nat.reduceSub, Nat.reducePow] at hc
     have hs := padded_succ b at_ t (by omega) _ hc
     rw [beq1_toNat _ (Nat.mod_lt _ (by omega)), ← hv] at hs
     have hxl := x.toNat_lt
     have htm : (i : Int).tmod 8 = 6 := by rw [Int.tmod_eq_emod_of_nonneg (by omega)]; omega
     have hfd : (x.toNat : Int).fdiv 2 = ((x.toNat / 2 : Nat) : Int) := by rw [Int.fdiv_eq_ediv_of_nonneg _ (by omega)]; omega
     have hble : x.toNat / 2 < 256 := by omega
     generalize x.toNat / 2 = w at hs hfd hble
     have htm2 : (w : Int).tmod 2 = ((w % 2 : Nat) : Int) := by rw [Int.tmod_eq_emod_of_nonneg (by omega)]; omega
     have hw2 : w % 2 < 2 := Nat.mod_lt _ (by omega)
     generalize w % 2 = bt at hs htm2 hw2
     clear hc hm hx2 hv hxx
     refine Wk ?_
     refine ⟨⟨rid, t + 1, i + 1, 2 * v + bt, by simp (disch := omega) [go_sem, *, -List.reduceReplicate], by simp (disch := omega) [go_sem, *, -List.reduceReplicate], by simp (disch := omega) [go_sem, *, -List.reduceReplicate], by simp (disch := omega) [go_sem, *, -List.reduceReplicate], by omega, by omega, by rw [hs], by simp (disch := omega) [go_sem, *, -List.reduceReplicate], by simp (disch := omega) [go_sem, *, -List.reduceReplicate], hNr, by simp only; omega, by simp only; omega, (fun id hid => by simp (disch := omega) only; try exact hlow id hid)⟩, ?_⟩
     simp (disch := omega) [go_sem, *, -List.reduceReplicate]
     omega
    ·have hx2 : i % 8 = 7 := hm
     have hc := padded_in b at_ t x (by omega) hxx
     rw [hit, hx2] at hc
     simp only [Nat.reduceSub, Nat.reducePow, Nat.div_one] at hc
     have hs := padded_succ b at_ t (by omega) _ hc
     rw [beq1_toNat _ (Nat.mod_lt _ (by omega)), ← hv] at hs
     have hxl := x.toNat_lt
     have htm : (i : Int).tmod 8 = 7 := by rw [Int.tmod_eq_emod_of_nonneg (by omega)]; omega
     have hfd : (x.toNat : Int).fdiv 1 = ((x.toNat : Nat) : Int) := by rw [Int.fdiv_eq_ediv_of_nonneg _ (by omega)]; omega
     have hble : x.toNat < 256 := by omega
     generalize x.toNat = w at hs hfd hble hbx
     have htm2 : (w : Int).tmod 2 = ((w % 2 : Nat) : Int) := by rw [Int.tmod_eq_emod_of_nonneg (by omega)]; omega
     have hw2 : w % 2 < 2 := Nat.mod_lt _ (by omega)
     generalize w % 2 = bt at hs htm2 hw2
     clear hc hm hx2 hv hxx
     refine Wk ?_
     refine ⟨⟨rid, t + 1, i + 1, 2 * v + bt, by simp (disch := omega) [go_sem, *, -List.reduceReplicate], by simp (disch := omega) [go_sem, *, -List.reduceReplicate], by simp (disch := omega) [go_sem, *, -List.reduceReplicate], by simp (disch := omega) [go_sem, *, -List.reduceReplicate], by omega, by omega, by rw [hs], by simp (disch := omega) [go_sem, *, -List.reduceReplicate], by simp (disch := omega) [go_sem, *, -List.reduceReplicate], hNr, by simp only; omega, by simp only; omega, (fun id hid => by simp (disch := omega) only; try exact hlow id hid)⟩, ?_⟩
     simp (disch := omega) [go_sem, *, -List.reduceReplicate]
     omega
   ·have hibi : ¬ (i : Int) < 8 * (b.length : Int) := by omega
    have hs := padded_succ b at_ t (by omega) _ (padded_out b at_ t (by omega) (by omega))
    rw [← hv, Bool.toNat_false, Nat.add_zero] at hs
    clear hv
    refine Wk ?_
    refine ⟨⟨rid, t + 1, i + 1, 2 * v, by simp (disch := omega) [go_sem, *, -List.reduceReplicate], by simp (disch := omega) [go_sem, *, -List.reduceReplicate], by simp (disch := omega) [go_sem, *, -List.reduceReplicate], by simp (disch := omega) [go_sem, *, -List.reduceReplicate], by omega, by omega, by omega, by simp (disch := omega) [go_sem, *, -List.reduceReplicate], by simp (disch := omega) [go_sem, *, -List.reduceReplicate], hNr, by simp only; omega, by simp only; omega, (fun id hid => by simp (disch := omega) only; try exact hlow id hid)⟩, ?_⟩
    simp (disch := omega) [go_sem, *, -List.reduceReplicate]
    omega
 ·have hati : ¬ (at_ : Int) < 8 * (b.length : Int) := by omega
  have hd : (bitsB b).drop at_ = [] := List.drop_eq_nil_of_le (by rw [bitsB_len]; omega)
  rw [hd, textOf_nil, List.append_nil] at htot
  subst htot
  have hstr : strAV (textS b) = .lit (.string ⟨(textS b).toArray⟩) := rfl
  generalize textS b = acc at *
  clear hd
  refine Wk ?_
  exact W0

def valS (c : Nat) : Nat × Bool := if 97 ≤ c ∧ c ≤ 122 then (c - 71, true) else if 65 ≤ c ∧ c ≤ 90 then (c - 65, true) else if 48 ≤ c ∧ c ≤ 57 then (c + 4, true) else if c = 45 then (62, true) else (63, decide (c = 95))
theorem valS_lt (c : Nat) : (valS c).1 < 64 := by
 unfold valS
 split
 ·simp only; omega
 ·split
  ·simp only; omega
  ·split
   ·simp only; omega
   ·split <;> simp
theorem value_a (c : Nat) (h1 : 97 ≤ c) (h2 : c ≤ 122) (k : Nat) :
  ACall Tryz.prog 175 [.lit (.int .u8 c)] k [] (.tup [.lit (.int .i64 ((c - 71 : Nat) : Int)), .lit (.bool true)]) [] := by
 have w1 : IntKind.u8.wrap ((c : Int) - 32) = (c : Int) - 32 := by rw [IntKind.wrap_u8]; omega
 have w2 : IntKind.u8.wrap ((c : Int) - 32 - 65) = (c : Int) - 97 := by rw [IntKind.wrap_u8]; omega
 have hr : ((c - 71 : Nat) : Int) = 26 + ((c : Int) - 97) := by omega
 rw [hr]
 clear hr
 have h1i : (97 : Int) ≤ c := by omega
 have h2i : (c : Int) ≤ 122 := by omega
 refine Bd Tryz.func175 Tryz.ntmps175 fun σ N hp hpn hk hkn hfree => ?_
 exact W0
theorem value_b (c : Nat) (h1 : 65 ≤ c) (h2 : c ≤ 90) (k : Nat) :
  ACall Tryz.prog 175 [.lit (.int .u8 c)] k [] (.tup [.lit (.int .i64 ((c - 65 : Nat) : Int)), .lit (.bool true)]) [] := by
 have w2 : IntKind.u8.wrap ((c : Int) - 65) = (c : Int) - 65 := by rw [IntKind.wrap_u8]; omega
 have hr : ((c - 65 : Nat) : Int) = (c : Int) - 65 := by omega
 rw [hr]
 clear hr
 have h0i : ¬ (97 : Int) ≤ c := by omega
 have h1i : (65 : Int) ≤ c := by omega
 have h2i : (c : Int) ≤ 90 := by omega
 refine Bd Tryz.func175 Tryz.ntmps175 fun σ N hp hpn hk hkn hfree => ?_
 exact W0
theorem value_c (c : Nat) (h1 : 48 ≤ c) (h2 : c ≤ 57) (k : Nat) :
  ACall Tryz.prog 175 [.lit (.int .u8 c)] k [] (.tup [.lit (.int .i64 ((c + 4 : Nat) : Int)), .lit (.bool true)]) [] := by
 have w2 : IntKind.u8.wrap ((c : Int) - 48) = (c : Int) - 48 := by rw [IntKind.wrap_u8]; omega
 have hr : ((c + 4 : Nat) : Int) = 52 + ((c : Int) - 48) := by omega
 rw [hr]
 clear hr
 have h0i : ¬ (97 : Int) ≤ c := by omega
 have h3i : ¬ (65 : Int) ≤ c := by omega
 have h1i : (48 : Int) ≤ c := by omega
 have h2i : (c : Int) ≤ 57 := by omega
 refine Bd Tryz.func175 Tryz.ntmps175 fun σ N hp hpn hk hkn hfree => ?_
 exact W0
theorem value_d (c : Nat) (h1 : c = 45) (k : Nat) :
  ACall Tryz.prog 175 [.lit (.int .u8 c)] k [] (.tup [.lit (.int .i64 62), .lit (.bool true)]) [] := by
 subst h1
 refine Bd Tryz.func175 Tryz.ntmps175 fun σ N hp hpn hk hkn hfree => ?_
 exact W0
theorem value_e1 (c : Nat) (h1 : c < 48) (h2 : ¬ c = 45) (k : Nat) :
  ACall Tryz.prog 175 [.lit (.int .u8 c)] k [] (.tup [.lit (.int .i64 63), .lit (.bool (decide (c = 95)))]) [] := by
 have hb : ((c : Int) == 95) = decide (c = 95) := by rw [Bool.eq_iff_iff]; simp; omega
 have f0 : ¬ (97 : Int) ≤ c := by omega
 have f1 : ¬ (65 : Int) ≤ c := by omega
 have f2 : ¬ (48 : Int) ≤ c := by omega
 refine Bd Tryz.func175 Tryz.ntmps175 fun σ N hp hpn hk hkn hfree => ?_
 exact W0
theorem value_e2 (c : Nat) (h1 : 58 ≤ c) (h2 : c ≤ 64) (k : Nat) :
  ACall Tryz.prog 175 [.lit (.int .u8 c)] k [] (.tup [.lit (.int .i64 63), .lit (.bool (decide (c = 95)))]) [] := by
 have hb : ((c : Int) == 95) = decide (c = 95) := by rw [Bool.eq_iff_iff]; simp; omega
 have f0 : ¬ (97 : Int) ≤ c := by omega
 have f1 : ¬ (65 : Int) ≤ c := by omega
 have f2 : (48 : Int) ≤ c := by omega
 have f3 : ¬ (c : Int) ≤ 57 := by omega
 have f4 : ¬ c = 45 := by omega
 refine Bd Tryz.func175 Tryz.ntmps175 fun σ N hp hpn hk hkn hfree => ?_
 exact W0
theorem value_e3 (c : Nat) (h1 : 91 ≤ c) (h2 : c ≤ 96) (k : Nat) :
  ACall Tryz.prog 175 [.lit (.int .u8 c)] k [] (.tup [.lit (.int .i64 63), .lit (.bool (decide (c = 95)))]) [] := by
 have hb : ((c : Int) == 95) = decide (c = 95) := by rw [Bool.eq_iff_iff]; simp; omega
 have f0 : ¬ (97 : Int) ≤ c := by omega
 have f1 : (65 : Int) ≤ c := by omega
 have f2 : ¬ (c : Int) ≤ 90 := by omega
 have f3 : (48 : Int) ≤ c := by omega
 have f4 : ¬ (c : Int) ≤ 57 := by omega
 have f5 : ¬ c = 45 := by omega
 refine Bd Tryz.func175 Tryz.ntmps175 fun σ N hp hpn hk hkn hfree => ?_
 exact W0
theorem value_e4 (c : Nat) (h1 : 123 ≤ c) (k : Nat) :
  ACall Tryz.prog 175 [.lit (.int .u8 c)] k [] (.tup [.lit (.int .i64 63), .lit (.bool (decide (c = 95)))]) [] := by
 have hb : ((c : Int) == 95) = decide (c = 95) := by rw [Bool.eq_iff_iff]; simp; omega
 have f0 : (97 : Int) ≤ c := by omega
 have f1 : ¬ (c : Int) ≤ 122 := by omega
 have f2 : (65 : Int) ≤ c := by omega
 have f3 : ¬ (c : Int) ≤ 90 := by omega
 have f4 : (48 : Int) ≤ c := by omega
 have f5 : ¬ (c : Int) ≤ 57 := by omega
 have f6 : ¬ c = 45 := by omega
 refine Bd Tryz.func175 Tryz.ntmps175 fun σ N hp hpn hk hkn hfree => ?_
 exact W0
theorem value_spec (c : Nat) (k : Nat) :
  ACall Tryz.prog 175 [.lit (.int .u8 c)] k [] (.tup [.lit (.int .i64 (valS c).1), .lit (.bool (valS c).2)]) [] := by
 unfold valS
 by_cases h1 : 97 ≤ c ∧ c ≤ 122
 ·rw [if_pos h1]; exact value_a c h1.1 h1.2 k
 ·rw [if_neg h1]
  by_cases h2 : 65 ≤ c ∧ c ≤ 90
  ·rw [if_pos h2]; exact value_b c h2.1 h2.2 k
  ·rw [if_neg h2]
   by_cases h3 : 48 ≤ c ∧ c ≤ 57
   ·rw [if_pos h3]; exact value_c c h3.1 h3.2 k
   ·rw [if_neg h3]
    by_cases h4 : c = 45
    ·rw [if_pos h4]; exact value_d c h4 k
    ·rw [if_neg h4];
     by_cases g1 : c < 48
     ·exact value_e1 c g1 h4 k
     ·by_cases g2 : c ≤ 64
      ·exact value_e2 c (by omega) g2 k
      ·by_cases g3 : c ≤ 96
       ·exact value_e3 c (by omega) g3 k
       ·exact value_e4 c (by omega) k
end Go.Proofs.YtemmlldpmgfblaaGreatDoor

namespace Go.Proofs.YtemmlldpmgfblaaGreatDoor
open Go.Ab
def vals : List UInt8 → Option (List Nat)
 | [] => some []
 | c :: r => if (valS c.toNat).2 = true then (vals r).map ((valS c.toNat).1 :: ·) else none
def bits6 (vs : List Nat) : List Bool := vs.flatMap (bitsN 6)
theorem bits6_append (a b : List Nat) : bits6 (a ++ b) = bits6 a ++ bits6 b := by simp [bits6]
theorem bits6_one (v : Nat) : bits6 [v] = bitsN 6 v := by simp [bits6]
theorem bits6_cons (v : Nat) (r : List Nat) : bits6 (v :: r) = bitsN 6 v ++ bits6 r := by simp [bits6]
theorem bits6_len (vs : List Nat) : (bits6 vs).length = 6 * vs.length := by
 induction vs with
 | nil => rfl
 | cons v r ih => rw [bits6_cons, List.length_append, bitsN_len, ih, List.length_cons]; omega
def grp8 (l : List Bool) : List UInt8 := if 8 ≤ l.length then UInt8.ofNat (num (l.take 8)) :: grp8 (l.drop 8) else []
termination_by l.length
decreasing_by simp only [List.length_drop]; omega
def left8 (l : List Bool) : List Bool := if 8 ≤ l.length then left8 (l.drop 8) else l
termination_by l.length
decreasing_by simp only [List.length_drop]; omega
theorem grp8_small {l : List Bool} (h : l.length < 8) : grp8 l = [] := by rw [grp8, if_neg (by omega)]
theorem left8_small {l : List Bool} (h : l.length < 8) : left8 l = l := by rw [left8, if_neg (by omega)]
theorem grp8_big {l : List Bool} (h : 8 ≤ l.length) : grp8 l = UInt8.ofNat (num (l.take 8)) :: grp8 (l.drop 8) := by rw [grp8, if_pos h]
theorem left8_big {l : List Bool} (h : 8 ≤ l.length) : left8 l = left8 (l.drop 8) := by rw [left8, if_pos h]
theorem grp8_append (l x : List Bool) : grp8 (l ++ x) = grp8 l ++ grp8 (left8 l ++ x) ∧ left8 (l ++ x) = left8 (left8 l ++ x) := by
 induction h : l.length using Nat.strongRecOn generalizing l with
 | _ n ih =>
  by_cases h8 : 8 ≤ l.length
  ·have hd : (l.drop 8).length = l.length - 8 := List.length_drop
   have := ih (l.drop 8).length (by omega) (l.drop 8) rfl
   rw [grp8_big h8, left8_big h8, grp8_big (l := l ++ x) (by rw [List.length_append]; omega), left8_big (l := l ++ x) (by rw [List.length_append]; omega), List.take_append_of_le_length h8, List.drop_append_of_le_length h8, this.1, this.2]
   exact ⟨rfl, rfl⟩
  ·rw [grp8_small (l := l) (by omega), left8_small (l := l) (by omega)]; exact ⟨rfl, rfl⟩
theorem left8_len (l : List Bool) : (left8 l).length < 8 ∧ (left8 l).length = l.length % 8 := by
 induction h : l.length using Nat.strongRecOn generalizing l with
 | _ n ih =>
  by_cases h8 : 8 ≤ l.length
  ·have hd : (l.drop 8).length = l.length - 8 := List.length_drop
   have := ih (l.drop 8).length (by omega) (l.drop 8) rfl
   rw [left8_big h8]; omega
  ·rw [left8_small (by omega)]; omega
theorem grp8_len (l : List Bool) : (grp8 l).length = l.length / 8 := by
 induction h : l.length using Nat.strongRecOn generalizing l with
 | _ n ih =>
  by_cases h8 : 8 ≤ l.length
  ·have hd : (l.drop 8).length = l.length - 8 := List.length_drop
   have := ih (l.drop 8).length (by omega) (l.drop 8) rfl
   rw [grp8_big h8, List.length_cons]; omega
  ·rw [grp8_small (by omega), List.length_nil]; omega
theorem vals_append : ∀ (a b : List UInt8) (x y : List Nat), vals a = some x → vals b = some y → vals (a ++ b) = some (x ++ y)
 | [], b, x, y, h1, h2 => by simp only [vals, Option.some.injEq] at h1; subst h1; exact h2
 | c :: r, b, x, y, h1, h2 => by
  simp only [vals] at h1
  split at h1
  ·rename_i hc
   cases hr : vals r with
   | none => rw [hr] at h1; simp at h1
   | some z =>
    rw [hr] at h1
    simp only [Option.map_some, Option.some.injEq] at h1
    subst h1
    simp only [List.cons_append, vals, if_pos hc, vals_append r b z y hr h2, Option.map_some]
  ·cases h1
theorem vals_len : ∀ (a : List UInt8) (x : List Nat), vals a = some x → x.length = a.length
 | [], x, h => by simp only [vals, Option.some.injEq] at h; subst h; rfl
 | c :: r, x, h => by
  simp only [vals] at h
  split at h
  ·cases hr : vals r with
   | none => rw [hr] at h; simp at h
   | some z =>
    rw [hr] at h
    simp only [Option.map_some, Option.some.injEq] at h
    subst h
    simp [vals_len r z hr]
  ·cases h
theorem vals_bad : ∀ (a : List UInt8) (u : Nat) (h : u < a.length), (valS (a[u]).toNat).2 = false → vals a = none
 | c :: r, 0, h, hb => by simp only [List.getElem_cons_zero] at hb; simp [vals, hb]
 | c :: r, u + 1, h, hb => by
  simp only [List.getElem_cons_succ] at hb
  have := vals_bad r u (by simpa using h) hb
  simp [vals, this]
theorem vals_snoc {s : List UInt8} {u : Nat} {c : UInt8} {vs : List Nat} (h : u < s.length) (hx : s[u] = c) (hc : (valS c.toNat).2 = true) (hv : vals (s.take u) = some vs) : vals (s.take (u + 1)) = some (vs ++ [(valS c.toNat).1]) := by
 rw [List.take_add_one, List.getElem?_eq_getElem h, hx]
 exact vals_append _ _ _ _ hv (by simp [vals, hc])
def decS (s : List UInt8) : List UInt8 × Nat :=
 if 5462 < s.length then ([], 2) else match vals s with
 | none => ([], 8)
 | some vs => if s.length % 4 = 1 then ([], 3) else if num (left8 (bits6 vs)) ≠ 0 then ([], 5) else (grp8 (bits6 vs), 0)
def decAV (r : List UInt8 × Nat) : AV := .tup [.slice none (r.1.map byteAV), .lit (.int .i64 r.2)]
theorem push6_small {p : List Bool} {v : Nat} (hv : v < 64) (h : p.length + 6 < 8) : grp8 (p ++ bitsN 6 v) = [] ∧ left8 (p ++ bitsN 6 v) = p ++ bitsN 6 v ∧ num (p ++ bitsN 6 v) = num p * 64 + v := by
 have hl : (p ++ bitsN 6 v).length = p.length + 6 := by rw [List.length_append, bitsN_len]
 refine ⟨grp8_small (by omega), left8_small (by omega), ?_⟩
 rw [num_append, bitsN_len, num_bitsN, Nat.mod_eq_of_lt (by exact hv)]
theorem push6_big {p : List Bool} {v n : Nat} (hv : v < 64) (h : p.length + 6 = n + 8) (hn : n < 8) : grp8 (p ++ bitsN 6 v) = [UInt8.ofNat ((num p * 64 + v) / 2 ^ n)] ∧ left8 (p ++ bitsN 6 v) = (p ++ bitsN 6 v).drop 8 ∧ num ((p ++ bitsN 6 v).drop 8) = (num p * 64 + v) % 2 ^ n ∧ (num p * 64 + v) / 2 ^ n < 256 := by
 have hl : (p ++ bitsN 6 v).length = n + 8 := by rw [List.length_append, bitsN_len]; exact h
 have hq : num (p ++ bitsN 6 v) = num p * 64 + v := by rw [num_append, bitsN_len, num_bitsN, Nat.mod_eq_of_lt (by exact hv)]
 generalize p ++ bitsN 6 v = q at *
 have hd : (q.drop 8).length = n := by rw [List.length_drop]; omega
 have h1 := num_append (q.take 8) (q.drop 8)
 rw [List.take_append_drop, hd, hq] at h1
 have h2 := num_lt (q.drop 8)
 have h3 := num_lt (q.take 8)
 rw [hd] at h2
 rw [List.length_take, hl, show min 8 (n + 8) = 8 by omega] at h3
 have hp : 0 < 2 ^ n := Nat.two_pow_pos _
 have e1 : (num p * 64 + v) / 2 ^ n = num (q.take 8) := by rw [h1, Nat.mul_comm, Nat.mul_add_div hp, Nat.div_eq_of_lt h2]; rfl
 have e2 : (num p * 64 + v) % 2 ^ n = num (q.drop 8) := by rw [h1, Nat.mul_comm, Nat.mul_add_mod, Nat.mod_eq_of_lt h2]
 refine ⟨?_, ?_, e2.symm, by rw [e1]; exact h3⟩
 ·rw [grp8_big (by omega), grp8_small (by omega), e1]
 ·rw [left8_big (by omega), left8_small (by omega)]
end Go.Proofs.YtemmlldpmgfblaaGreatDoor

namespace Go.Proofs.YtemmlldpmgfblaaGreatDoor
open Go.Ab
attribute [local irreducible] Go.Ab.tyAV Go.Ab.aw Go.Ab.aops Go.Ab.kReg Go.Ab.aThen Go.Ab.aBlk Go.Ab.acond Go.Ab.aguard Go.Ab.astep Go.Ab.AStepX Go.Ab.aRet
theorem i64_or6 (r x : Nat) (hr : r < 1000000) (hx : x < 64) : bits .or .i64 ((r : Int) * 64) x = ((r * 64 + x : Nat) : Int) := by
 have h : bits .or .i64 ((r : Int) * 64) x = (r : Int) * 64 + x := bits_join .i64 63 (by decide) (fun n a b => wrap_i64 (by omega) (by omega)) 6 ((r : Int) * 64) x (by omega) (by omega) (by omega) (by omega) (by omega) (by omega)
 rw [h]; omega
theorem i64_and15 (x : Int) (h0 : 0 ≤ x) (h1 : x ≤ 9223372036854775807) : bits .and .i64 x 15 = x % 16 :=
 bits_mask .i64 63 (by decide) (fun n a b => wrap_i64 (by omega) (by omega)) 4 (by decide) x h0 (by omega)
theorem i64_and3 (x : Int) (h0 : 0 ≤ x) (h1 : x ≤ 9223372036854775807) : bits .and .i64 x 3 = x % 4 :=
 bits_mask .i64 63 (by decide) (fun n a b => wrap_i64 (by omega) (by omega)) 2 (by decide) x h0 (by omega)
theorem i64_and0 (x : Int) (h0 : 0 ≤ x) (h1 : x ≤ 9223372036854775807) : bits .and .i64 x 0 = x % 1 :=
 bits_mask .i64 63 (by decide) (fun n a b => wrap_i64 (by omega) (by omega)) 0 (by decide) x h0 (by omega)
theorem dec_long (s : List UInt8) (hl : 5462 < s.length) (hl2 : s.length ≤ 9223372036854775807) (k : Nat) :
  ACall Tryz.prog 114 [strAV s] k [] (.tup [.slice none [], .lit (.int .i64 2)]) [] := by
 have h2 : (5462 : Int) < s.length := by omega
 have hs : strAV s = .lit (.string ⟨s.toArray⟩) := rfl
 rw [hs]
 refine Bd Tryz.func114 Tryz.ntmps114 fun σ N hp hpn hk hkn hfree => ?_
 exact WL
theorem dec_core (s : List UInt8) (hl : s.length ≤ 5462) (k : Nat) :
  ACall Tryz.prog 114 [strAV s] k [] (decAV (decS s)) [] := by
 have h2 : ¬ (5462 : Int) < s.length := by omega
 have hs : strAV s = .lit (.string ⟨s.toArray⟩) := rfl
 rw [hs]
 have hD : decS s = (match vals s with
   | none => ([], 8)
   | some vs => if s.length % 4 = 1 then ([], 3) else if num (left8 (bits6 vs)) ≠ 0 then ([], 5) else (grp8 (bits6 vs), 0)) := by rw [decS, if_neg (by omega)]; try (cases vals s <;> rfl)
 refine Bd Tryz.func114 Tryz.ntmps114 fun σ N hp hpn hk hkn hfree => ?_
 refine Wk ?_
 refine ALoop.nilrow 4 5 1 (by simp (disch := omega) [go_sem, *, -List.reduceReplicate]) ?_
 refine go_loop (aloop mixed (by kernel_rfl) (fun c => ∃ (u rid : Nat) (vs : List Nat) (p : List Bool) (acc : List UInt8), c.s 0 = .lit (.string ⟨s.toArray⟩) ∧ c.s 14 = .lit (.int .i64 s.length) ∧ c.s 15 = .lit (.int .i64 u) ∧ u ≤ s.length ∧ c.s 5 = .lit (.int .i64 (num p)) ∧ c.s 6 = .lit (.int .i64 p.length) ∧ c.s 4 = .slice (some rid) (acc.map byteAV) ∧ c.σ rid = .row 5 1 acc.length ∧ N ≤ rid ∧ rid < c.n ∧ N ≤ c.n ∧ (∀ id, id < N → c.σ id = σ id) ∧ vals (s.take u) = some vs ∧ p = left8 (bits6 vs) ∧ acc = grp8 (bits6 vs))
  (fun c => match c.s 15 with | .lit (.int _ m) => s.length - m.toNat | _ => 0) ⟨0, _, [], [], [], by simp (disch := omega) [go_sem, *, -List.reduceReplicate], by simp (disch := omega) [go_sem, *, -List.reduceReplicate], by simp (disch := omega) [go_sem, *, -List.reduceReplicate], by omega, by simp (disch := omega) [go_sem, *, -List.reduceReplicate]; rfl, by simp (disch := omega) [go_sem, *, -List.reduceReplicate], by simp (disch := omega) [go_sem, *, -List.reduceReplicate]; rfl, by simp (disch := omega) [go_sem, *, -List.reduceReplicate], by omega, by simp only; omega, by simp only; omega, (fun id hid => by simp (disch := omega) only [upd_ne]; try exact hlow id hid), rfl, by rw [show bits6 [] = [] from rfl, left8_small (by simp)], by rw [show bits6 [] = [] from rfl, grp8_small (by simp)]⟩ ?_)
 rintro ⟨s1, σ', n'⟩ ⟨u, rid, vs, p, acc, h0, h14, h15, hu, h5, h6, h4, hr, hNr, hrn, hn', hlow, hvs, hp, hacc⟩
 simp only at h0 h14 h15 h5 h6 h4 hr hNr hrn hn' hlow
 have hvl := vals_len _ _ hvs
 rw [List.length_take] at hvl
 have hb6 := bits6_len vs
 have hp8 := left8_len (bits6 vs)
 have ha8 := grp8_len (bits6 vs)
 rw [← hp] at hp8
 rw [← hacc] at ha8
 by_cases hul : u = s.length
 ·subst hul
  rw [List.take_length] at hvs
  rw [hvs] at hD
  simp only at hD
  rw [← hp, ← hacc] at hD
  have hal : ¬ (4096 : Int) < acc.length := by omega
  by_cases hm : s.length % 4 = 1
  ·rw [if_pos hm] at hD
   rw [hD, decAV]
   have hmi : (s.length : Int).tmod 4 = 1 := by rw [Int.tmod_eq_emod_of_nonneg (by omega)]; omega
   clear hvs hp hacc hvl hb6 hp8 ha8 hD hm
   exact WL
  ·rw [if_neg hm] at hD
   have hmi : ((s.length : Int).tmod 4 == 1) = false := by rw [Int.tmod_eq_emod_of_nonneg (by omega), beq_eq_false_iff_ne]; omega
   have hmj : ¬ (s.length : Int).tmod 4 = 1 := by rw [Int.tmod_eq_emod_of_nonneg (by omega)]; omega
   by_cases hz : num p ≠ 0
   ·rw [if_pos hz] at hD
    rw [hD, decAV]
    have hzi : ((num p : Int) == 0) = false := by rw [beq_eq_false_iff_ne]; omega
    have hzj : ¬ (num p : Int) = 0 := by omega
    clear hvs hp hacc hvl hb6 hp8 ha8 hD hm
    exact WL
   ·rw [if_neg hz] at hD
    rw [hD, decAV]
    have hz0 : num p = 0 := by omega
    clear hvs hp hacc hvl hb6 hp8 ha8 hD hm hz
    rw [hz0] at h5
    exact WL
 ·have hu2 : u < s.length := by omega
  obtain ⟨x, hx⟩ : ∃ x, s[u] = x := ⟨_, rfl⟩
  have hc := value_spec x.toNat (N + 0)
  by_cases hok : (valS x.toNat).2 = true
  ·have hsn := vals_snoc hu2 hx hok hvs
   have hgr := grp8_append (bits6 vs) (bitsN 6 (valS x.toNat).1)
   rw [← bits6_one, ← bits6_append, bits6_one, ← hp, ← hacc] at hgr
   have hv6 := valS_lt x.toNat
   clear hD hc
   generalize vs ++ [(valS x.toNat).1] = vs2 at hsn hgr
   have hspec := fun k => value_spec x.toNat k
   rw [hok] at hspec
   generalize (valS x.toNat).1 = v at hspec hgr hv6
   have hor := fun h => i64_or6 (num p) v h hv6
   have hpe : p.length = 0 ∨ p.length = 2 ∨ p.length = 4 ∨ p.length = 6 := by omega
   have hal2 : acc.length ≤ 4096 := by omega
   clear hp hacc hvs hvl hb6 hp8 ha8
   rcases hpe with hpl | hpl | hpl | hpl
   ·have hnl := num_lt p
    rw [hpl] at hnl
    simp only [Nat.reducePow] at hnl
    have hor2 := hor (by omega)
    have h6' : s1 6 = .lit (.int .i64 0) := by rw [h6, hpl]; rfl
    clear h6 hor
    obtain ⟨q1, q2, q3⟩ := push6_small (p := p) hv6 (by omega)
    rw [q1, q2] at hgr
    rw [← q3] at hor2
    have hm63 : bits .and .i64 ((num (p ++ bitsN 6 v) : Nat) : Int) 63 = num (p ++ bitsN 6 v) := by
     have := num_lt (p ++ bitsN 6 v)
     rw [List.length_append, hpl, bitsN_len] at this
     simp only [Nat.reduceAdd, Nat.reducePow] at this
     rw [i64_and63 _ (by omega) (by omega)]; omega
    have hql : (p ++ bitsN 6 v).length = 6 := by rw [List.length_append, hpl, bitsN_len]
    clear q1 q2 q3
    generalize p ++ bitsN 6 v = q at *
    generalize num p = np at *
    have hcs := And.intro hspec True.intro
    refine Wk ?_
    refine ⟨⟨u + 1, rid, vs2, q, acc, by simp (disch := omega) [go_sem, *, -List.reduceReplicate], by simp (disch := omega) [go_sem, *, -List.reduceReplicate], by simp (disch := omega) [go_sem, *, -List.reduceReplicate], by omega, by simp (disch := omega) [go_sem, *, -List.reduceReplicate], by simp (disch := omega) [go_sem, *, -List.reduceReplicate], by simp (disch := omega) [go_sem, *, -List.reduceReplicate], by simp (disch := omega) [go_sem, *, -List.reduceReplicate], by omega, by simp only; omega, by simp only; omega, (fun id hid => by simp (disch := omega) only [wr_nil]; try exact hlow id hid), hsn, by rw [hgr.2], by rw [hgr.1, List.append_nil]⟩, ?_⟩
    simp (disch := omega) [go_sem, *, -List.reduceReplicate]
    omega
   ·have hnl := num_lt p
    rw [hpl] at hnl
    simp only [Nat.reducePow] at hnl
    have hor2 := hor (by omega)
    have h6' : s1 6 = .lit (.int .i64 2) := by rw [h6, hpl]; rfl
    clear h6 hor
    obtain ⟨q1, q2, q3, q4⟩ := push6_big (p := p) (v := v) (n := 0) hv6 (by omega) (by omega)
    rw [q1, q2] at hgr
    simp only [Nat.reducePow] at q3 q4 hgr
    have hql : ((p ++ bitsN 6 v).drop 8).length = 0 := by rw [List.length_drop, List.length_append, hpl, bitsN_len]
    have hfd : ((num p * 64 + v : Nat) : Int).fdiv 1 = (((num p * 64 + v) / 1 : Nat) : Int) := by rw [Int.fdiv_eq_ediv_of_nonneg _ (by omega)]; omega
    have hmk : bits .and .i64 ((num p * 64 + v : Nat) : Int) 0 = (num ((p ++ bitsN 6 v).drop 8) : Int) := by
     rw [i64_and0 _ (by omega) (by omega), q3]; omega
    clear q1 q2 q3
    generalize (p ++ bitsN 6 v).drop 8 = q at *
    generalize (num p * 64 + v) / 1 = by_ at *
    have hby : byteAV (UInt8.ofNat by_) = .lit (.int .u8 by_) := by rw [byteAV, UInt8.toNat_ofNat', Nat.mod_eq_of_lt (by omega)]
    have hu8 : IntKind.u8.wrap (by_ : Int) = by_ := by rw [IntKind.wrap_u8]; omega
    generalize UInt8.ofNat by_ = bb at hby hgr
    generalize num p * 64 + v = big at *
    generalize num p = np at *
    have hcs := And.intro hspec True.intro
    refine Wk ?_
    refine ⟨⟨u + 1, rid, vs2, q, acc ++ [bb], by simp (disch := omega) [go_sem, *, -List.reduceReplicate], by simp (disch := omega) [go_sem, *, -List.reduceReplicate], by simp (disch := omega) [go_sem, *, -List.reduceReplicate], by omega, by simp (disch := omega) [go_sem, *, -List.reduceReplicate], by simp (disch := omega) [go_sem, *, -List.reduceReplicate], by simp (disch := omega) [go_sem, *, -List.reduceReplicate], by simp (disch := omega) [go_sem, *, -List.reduceReplicate], by omega, by simp only; omega, by simp only; omega, (fun id hid => by simp (disch := omega) only [upd_ne, wr_nil]; try exact hlow id hid), hsn, by rw [hgr.2], by rw [hgr.1]⟩, ?_⟩
    simp (disch := omega) [go_sem, *, -List.reduceReplicate]
    omega
   ·have hnl := num_lt p
    rw [hpl] at hnl
    simp only [Nat.reducePow] at hnl
    have hor2 := hor (by omega)
    have h6' : s1 6 = .lit (.int .i64 4) := by rw [h6, hpl]; rfl
    clear h6 hor
    obtain ⟨q1, q2, q3, q4⟩ := push6_big (p := p) (v := v) (n := 2) hv6 (by omega) (by omega)
    rw [q1, q2] at hgr
    simp only [Nat.reducePow] at q3 q4 hgr
    have hql : ((p ++ bitsN 6 v).drop 8).length = 2 := by rw [List.length_drop, List.length_append, hpl, bitsN_len]
    have hfd : ((num p * 64 + v : Nat) : Int).fdiv 4 = (((num p * 64 + v) / 4 : Nat) : Int) := by rw [Int.fdiv_eq_ediv_of_nonneg _ (by omega)]; omega
    have hmk : bits .and .i64 ((num p * 64 + v : Nat) : Int) 3 = (num ((p ++ bitsN 6 v).drop 8) : Int) := by
     rw [i64_and3 _ (by omega) (by omega), q3]; omega
    clear q1 q2 q3
    generalize (p ++ bitsN 6 v).drop 8 = q at *
    generalize (num p * 64 + v) / 4 = by_ at *
    have hby : byteAV (UInt8.ofNat by_) = .lit (.int .u8 by_) := by rw [byteAV, UInt8.toNat_ofNat', Nat.mod_eq_of_lt (by omega)]
    have hu8 : IntKind.u8.wrap (by_ : Int) = by_ := by rw [IntKind.wrap_u8]; omega
    generalize UInt8.ofNat by_ = bb at hby hgr
    generalize num p * 64 + v = big at *
    generalize num p = np at *
    have hcs := And.intro hspec True.intro
    refine Wk ?_
    refine ⟨⟨u + 1, rid, vs2, q, acc ++ [bb], by simp (disch := omega) [go_sem, *, -List.reduceReplicate], by simp (disch := omega) [go_sem, *, -List.reduceReplicate], by simp (disch := omega) [go_sem, *, -List.reduceReplicate], by omega, by simp (disch := omega) [go_sem, *, -List.reduceReplicate], by simp (disch := omega) [go_sem, *, -List.reduceReplicate], by simp (disch := omega) [go_sem, *, -List.reduceReplicate], by simp (disch := omega) [go_sem, *, -List.reduceReplicate], by omega, by simp only; omega, by simp only; omega, (fun id hid => by simp (disch := omega) only [upd_ne, wr_nil]; try exact hlow id hid), hsn, by rw [hgr.2], by rw [hgr.1]⟩, ?_⟩
    simp (disch := omega) [go_sem, *, -List.reduceReplicate]
    omega
   ·have hnl := num_lt p
    rw [hpl] at hnl
    simp only [Nat.reducePow] at hnl
    have hor2 := hor (by omega)
    have h6' : s1 6 = .lit (.int .i64 6) := by rw [h6, hpl]; rfl
    clear h6 hor
    obtain ⟨q1, q2, q3, q4⟩ := push6_big (p := p) (v := v) (n := 4) hv6 (by omega) (by omega)
    rw [q1, q2] at hgr
    simp only [Nat.reducePow] at q3 q4 hgr
    have hql : ((p ++ bitsN 6 v).drop 8).length = 4 := by rw [List.length_drop, List.length_append, hpl, bitsN_len]
    have hfd : ((num p * 64 + v : Nat) : Int).fdiv 16 = (((num p * 64 + v) / 16 : Nat) : Int) := by rw [Int.fdiv_eq_ediv_of_nonneg _ (by omega)]; omega
    have hmk : bits .and .i64 ((num p * 64 + v : Nat) : Int) 15 = (num ((p ++ bitsN 6 v).drop 8) : Int) := by
     rw [i64_and15 _ (by omega) (by omega), q3]; omega
    clear q1 q2 q3
    generalize (p ++ bitsN 6 v).drop 8 = q at *
    generalize (num p * 64 + v) / 16 = by_ at *
    have hby : byteAV (UInt8.ofNat by_) = .lit (.int .u8 by_) := by rw [byteAV, UInt8.toNat_ofNat', Nat.mod_eq_of_lt (by omega)]
    have hu8 : IntKind.u8.wrap (by_ : Int) = by_ := by rw [IntKind.wrap_u8]; omega
    generalize UInt8.ofNat by_ = bb at hby hgr
    generalize num p * 64 + v = big at *
    generalize num p = np at *
    have hcs := And.intro hspec True.intro
    refine Wk ?_
    refine ⟨⟨u + 1, rid, vs2, q, acc ++ [bb], by simp (disch := omega) [go_sem, *, -List.reduceReplicate], by simp (disch := omega) [go_sem, *, -List.reduceReplicate], by simp (disch := omega) [go_sem, *, -List.reduceReplicate], by omega, by simp (disch := omega) [go_sem, *, -List.reduceReplicate], by simp (disch := omega) [go_sem, *, -List.reduceReplicate], by simp (disch := omega) [go_sem, *, -List.reduceReplicate], by simp (disch := omega) [go_sem, *, -List.reduceReplicate], by omega, by simp only; omega, by simp only; omega, (fun id hid => by simp (disch := omega) only [upd_ne, wr_nil]; try exact hlow id hid), hsn, by rw [hgr.2], by rw [hgr.1]⟩, ?_⟩
    simp (disch := omega) [go_sem, *, -List.reduceReplicate]
    omega
  ·have hbad := vals_bad s u hu2 (by rw [hx]; simpa using hok)
   rw [hbad] at hD
   simp only at hD
   rw [hD, decAV]
   have hspec := fun k => value_spec x.toNat k
   have hok' : (valS x.toNat).2 = false := by simpa using hok
   rw [hok'] at hspec
   generalize (valS x.toNat).1 = v at hspec
   clear hp hacc hvs hvl hb6 hp8 ha8 hD hbad hok hok' hc
   have hcs := And.intro hspec True.intro
   exact WL
theorem dec_spec (s : List UInt8) (hl : s.length ≤ 9223372036854775807) (k : Nat) :
  ACall Tryz.prog 114 [strAV s] k [] (decAV (decS s)) [] := by
 by_cases h : s.length ≤ 5462
 ·exact dec_core s h k
 ·rw [decS, if_pos (by omega)]; exact dec_long s (by omega) hl k
end Go.Proofs.YtemmlldpmgfblaaGreatDoor

namespace Go.Proofs.YtemmlldpmgfblaaGreatDoor
open Go.Ab
theorem num_zero : ∀ (l : List Bool), (∀ j : Nat, l[j]? ≠ some true) → num l = 0
 | [], _ => rfl
 | b :: r, h => by
  have hb : b = false := by
   have := h 0
   cases b
   ·rfl
   ·simp at this
  rw [num_cons, num_zero r (fun j => by have := h (j + 1); rwa [List.getElem?_cons_succ] at this), hb]; simp
theorem alph_valS : ∀ (x : Fin 256) (k : Fin 64), (alph k).toNat = x ↔ (valS x).2 = true ∧ (valS x).1 = k := by decide +kernel
theorem alph_val (x : UInt8) (k : Nat) (hk : k < 64) : alph k = x ↔ (valS x.toNat).2 = true ∧ (valS x.toNat).1 = k := by
 have := alph_valS ⟨x.toNat, x.toNat_lt⟩ ⟨k, hk⟩
 simp only at this
 rw [← this]
 exact ⟨fun h => by rw [h], fun h => UInt8.toNat_inj.1 h⟩
end Go.Proofs.YtemmlldpmgfblaaGreatDoor
