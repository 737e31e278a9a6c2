/- Texts K11, K18, K19, U1, U6, U5, U7, D9, U8, U11, U28, O1, joined. -/
import Derived.Test.YtdmjpolnbmoehaaGreatDoorM8

namespace Go.Proofs.YtdmjpolnbmoehaaGreatDoor
open Go.Ab
attribute [local irreducible] Go.Ab.tyAV Go.Ab.aw Go.Ab.aops Go.Ab.kReg Go.Ab.aThen Go.Ab.aBlk Go.Ab.acond Go.Ab.aguard Go.Ab.astep Go.Ab.AStepX Go.Ab.aRet

end Go.Proofs.YtdmjpolnbmoehaaGreatDoor

namespace Go.Proofs.YtdmjpolnbmoehaaGreatDoor
open Go.Ab
theorem numR_at {b t : List UInt8} {u n : Nat} (h : b.drop u = leb n ++ t) (hn : n ≤ 281474976710656) : numR b u = (n, u + (leb n).length, 0) := by
 unfold numR
 rw [h, rdS_leb n hn t]
theorem be8_eight (m : Int) (h0 : 0 ≤ m) (h1 : m < 18446744073709551616) : (be8 (eightB m) : Int) = m := by
 have e7 := sh8_toNat m 56
 have e6 := sh8_toNat m 48
 have e5 := sh8_toNat m 40
 have e4 := sh8_toNat m 32
 have e3 := sh8_toNat m 24
 have e2 := sh8_toNat m 16
 have e1 := sh8_toNat m 8
 have e0 := sh8_toNat m 0
 simp only [Int.reducePow, Int.pow_zero, Int.ediv_one] at e7 e6 e5 e4 e3 e2 e1 e0
 simp only [eightB, be8, List.foldl_cons, List.foldl_nil]
 omega
end Go.Proofs.YtdmjpolnbmoehaaGreatDoor

namespace Go.Proofs.YtdmjpolnbmoehaaGreatDoor
open Go.Ab
attribute [local irreducible] Go.Ab.tyAV Go.Ab.aw Go.Ab.aops Go.Ab.kReg Go.Ab.aThen Go.Ab.aBlk Go.Ab.acond Go.Ab.aguard Go.Ab.astep Go.Ab.AStepX Go.Ab.aRet
attribute [local irreducible] shaG
theorem x8_xor (a b : UInt8) : x8 a b = a ^^^ b := by
 unfold x8
 have ha := a.toNat_lt
 have hb := b.toNat_lt
 have h : bits .xor .u8 (a.toNat : Int) (b.toNat : Int) = ((a ^^^ b).toNat : Int) := by
  have h2 := (a ^^^ b).toNat_lt
  have h3 : (BitVec.ofInt 8 (a.toNat : Int) ^^^ BitVec.ofInt 8 (b.toNat : Int)).toNat = (a ^^^ b).toNat := by
   rw [UInt8.toNat_xor, BitVec.toNat_xor]
   congr 1
   ·rw [BitVec.ofInt_natCast, BitVec.toNat_ofNat]; exact Nat.mod_eq_of_lt ha
   ·rw [BitVec.ofInt_natCast, BitVec.toNat_ofNat]; exact Nat.mod_eq_of_lt hb
  show IntKind.u8.wrap (((BitVec.ofInt 8 (a.toNat : Int) ^^^ BitVec.ofInt 8 (b.toNat : Int)).toNat : Nat) : Int) = _
  rw [h3, IntKind.wrap_u8]
  omega
 rw [h, Int.toNat_natCast, UInt8.ofNat_toNat]
theorem x8_x8 (a b : UInt8) : x8 (x8 a b) b = a := by
 rw [x8_xor, x8_xor, UInt8.xor_assoc, UInt8.xor_self, UInt8.xor_zero]
theorem eightB_inj {m n : Int} (h0 : 0 ≤ m) (h1 : m < 18446744073709551616) (h2 : 0 ≤ n) (h3 : n < 18446744073709551616) (h : eightB m = eightB n) : m = n := by
 have a := be8_eight m h0 h1
 have b := be8_eight n h2 h3
 rw [h] at a
 omega
theorem symT_inj {k : UInt8} {m n : Int} (h0 : 0 ≤ m) (h1 : m < 18446744073709551616) (h2 : 0 ≤ n) (h3 : n < 18446744073709551616) (h : symT k m = symT k n) : m = n := by
 have h := congrArg Subtype.val h
 simp only [symT, List.append_assoc, List.append_cancel_left_eq] at h
 exact eightB_inj h0 h1 h2 h3 (List.append_inj_left h (by rw [eightB_len, eightB_len]))
theorem symApp_inj {k : UInt8} {m n : Int} {x y : List UInt8} (h0 : 0 ≤ m) (h1 : m < 18446744073709551616) (h2 : 0 ≤ n) (h3 : n < 18446744073709551616) (h : (symT k m).1 ++ x = (symT k n).1 ++ y) : m = n :=
 symT_inj h0 h1 h2 h3 (Subtype.ext (List.append_inj_left h (by rw [(symT k m).2, (symT k n).2])))
theorem entL_app (k : Tg) (m : List UInt8) (L : List MacE) (e : MacE) : entL k m (L ++ [e]) = match entL k m L with
  | some t => some t
  | none => if e.key = k ∧ e.msg = m then some e.tag else none := by
 induction L with
 | nil => rfl
 | cons x r ih =>
  simp only [List.cons_append, entL]
  split
  ·rfl
  ·exact ih
theorem entL_mem {k : Tg} {m : List UInt8} {t : Tg} : ∀ {L : List MacE}, entL k m L = some t → ∃ e ∈ L, e.key = k ∧ e.msg = m ∧ e.tag = t
 | [], h => by cases h
 | x :: r, h => by
  simp only [entL] at h
  split at h
  ·rename_i hc
   injection h with h
   exact ⟨x, List.mem_cons_self .., hc.1, hc.2, h⟩
  ·obtain ⟨e, he, h1⟩ := entL_mem h
   exact ⟨e, List.mem_cons_of_mem _ he, h1⟩
theorem boxL_mem {k : Tg} {n : Int} {p : List UInt8} {b : List UInt8} : ∀ {L : List BoxE}, boxL k n p L = some b → ∃ e ∈ L, e.key = k ∧ e.nonce = n ∧ e.plain = p ∧ e.box = b
 | [], h => by cases h
 | x :: r, h => by
  simp only [boxL] at h
  split at h
  ·rename_i hc
   injection h with h
   exact ⟨x, List.mem_cons_self .., hc.1, hc.2.1, hc.2.2, h⟩
  ·obtain ⟨e, he, h1⟩ := boxL_mem h
   exact ⟨e, List.mem_cons_of_mem _ he, h1⟩
def openL (key : Tg) (b : List UInt8) : List BoxE → Option (List UInt8)
 | [] => none
 | e :: r => if e.key = key ∧ e.box = b then some e.plain else openL key b r
theorem openL_app (k : Tg) (b : List UInt8) (L : List BoxE) (e : BoxE) : openL k b (L ++ [e]) = match openL k b L with
  | some t => some t
  | none => if e.key = k ∧ e.box = b then some e.plain else none := by
 induction L with
 | nil => rfl
 | cons x r ih =>
  simp only [List.cons_append, openL]
  split
  ·rfl
  ·exact ih
theorem openL_some {k : Tg} {b p : List UInt8} : ∀ {L : List BoxE}, openL k b L = some p → ∃ e ∈ L, e.key = k ∧ e.box = b ∧ e.plain = p
 | [], h => by cases h
 | x :: r, h => by
  simp only [openL] at h
  split at h
  ·rename_i hc
   injection h with h
   exact ⟨x, List.mem_cons_self .., hc.1, hc.2, h⟩
  ·obtain ⟨e, he, h1⟩ := openL_some h
   exact ⟨e, List.mem_cons_of_mem _ he, h1⟩
theorem openL_of {k : Tg} {b : List UInt8} : ∀ {L : List BoxE} {e : BoxE}, e ∈ L → e.key = k → e.box = b → ∃ p, openL k b L = some p
 | [], _, h, _, _ => by cases h
 | x :: r, e, h, h1, h2 => by
  simp only [openL]
  split
  ·exact ⟨_, rfl⟩
  ·rename_i hn
   rcases List.mem_cons.1 h with rfl | h
   ·exact absurd ⟨h1, h2⟩ hn
   ·exact openL_of h h1 h2
section
variable [W : W32]
theorem strm_strm (key : List UInt8) (n : Int) (b : List UInt8) (h : ∀ q, (kst key n q).1.length = 32 := fun q => (kst key n q).2) : strmB key n (strmB key n b) = b := by
 have hl := strmB_len key n b
 refine List.ext_getElem (by rw [strmB_len, hl]) fun i h1 h2 => ?_
 have h32 : i % 32 < (kst key n (i / 32)).1.length := by rw [h]; exact Nat.mod_lt _ (by decide)
 rw [strmB_at key n (strmB key n b) i (by omega) h1 h32, strmB_at key n b i h2 (by omega) h32, x8_x8]
structure AlgOk (a : Alg) : Prop where
 mf : a.free = true → ∀ i (h : i < a.macs.length), (a.macs[i]).tag = symT 109 ((i : Int) + 1)
 mn : a.free = false → ∀ e ∈ a.macs, e.tag = hmacT e.key.1 e.msg
 bf : a.free = true → ∀ i (h : i < a.boxes.length), (a.boxes[i]).box = (symT 98 ((i : Int) + 1)).1 ++ List.replicate ((a.boxes[i]).plain.length + 8) 0
 bn : a.free = false → ∀ e ∈ a.boxes, e.box = sealB e.key.1 e.nonce e.plain
 mu : ∀ e ∈ a.macs, entL e.key e.msg a.macs = some e.tag
 ml : ∀ e ∈ a.macs, e.msg.length ≤ 4096
 bp : ∀ e ∈ a.boxes, e.plain.length ≤ 256 ∧ 0 ≤ e.nonce ∧ e.nonce ≤ 281474976710656
theorem AlgOk.nil (fr : Bool) (sd : Tg) (fs : Int) : AlgOk ⟨fr, sd, fs, [], []⟩ :=
 ⟨fun _ i h => absurd h (by simp), fun _ e he => absurd he (by simp), fun _ i h => absurd h (by simp), fun _ e he => absurd he (by simp), fun e he => absurd he (by simp), fun e he => absurd he (by simp), fun e he => absurd he (by simp)⟩
theorem AlgOk.zero : AlgOk alg0 := .nil _ _ _
theorem AlgOk.key {a : Alg} (h : AlgOk a) : AlgOk (keyS a).1 := by
 unfold keyS
 split
 ·exact .zero
 ·exact ⟨h.mf, h.mn, h.bf, h.bn, h.mu, h.ml, h.bp⟩
theorem AlgOk.mac {a : Alg} (h : AlgOk a) (key : Tg) (msg : List UInt8) : AlgOk (macS a key msg).1 := by
 by_cases h1 : 4096 < msg.length
 ·rw [macS_long h1]; exact .zero
 ·cases he : entL key msg a.macs with
  | some t => rw [macS_found h1 he]; exact h
  | none =>
   by_cases hf : 65536 ≤ a.macs.length
   ·rw [macS_full h1 he hf]; exact .zero
   ·rw [macS_new h1 he hf]
    refine ⟨fun hfr i hi => ?_, fun hfr e hm => ?_, h.bf, h.bn, fun e hm => ?_, fun e hm => ?_, h.bp⟩
    ·simp only [List.length_append, List.length_singleton] at hi
     rcases Nat.lt_or_ge i a.macs.length with hl | hl
     ·simp only [List.getElem_append_left hl]; exact h.mf hfr i hl
     ·obtain rfl : i = a.macs.length := by omega
      simp only [List.getElem_append_right (Nat.le_refl _), Nat.sub_self, List.getElem_singleton]
      rw [if_pos hfr]
    ·rcases List.mem_append.1 hm with hm | hm
     ·exact h.mn hfr e hm
     ·rw [List.mem_singleton.1 hm]; simp only
      have : a.free = false := hfr
      rw [this]; rfl
    ·rw [entL_app]
     rcases List.mem_append.1 hm with hm | hm
     ·rw [h.mu e hm]
     ·rw [List.mem_singleton.1 hm]; simp only; rw [he]; simp
    ·rcases List.mem_append.1 hm with hm | hm
     ·exact h.ml e hm
     ·rw [List.mem_singleton.1 hm]; simp only; omega
theorem AlgOk.sealed {a : Alg} (h : AlgOk a) (key : Tg) (nonce : Int) (plain : List UInt8) : AlgOk (sealS a key nonce plain).1 := by
 unfold sealS
 split
 ·exact .zero
 ·split
  ·exact .zero
  ·rename_i hn hp
   split
   ·exact h
   ·split
    ·exact .zero
    ·refine ⟨h.mf, h.mn, fun hfr i hi => ?_, fun hfr e hm => ?_, h.mu, h.ml, fun e hm => ?_⟩
     ·simp only [List.length_append, List.length_singleton] at hi
      rcases Nat.lt_or_ge i a.boxes.length with hl | hl
      ·simp only [List.getElem_append_left hl]; exact h.bf hfr i hl
      ·obtain rfl : i = a.boxes.length := by omega
       simp only [List.getElem_append_right (Nat.le_refl _), Nat.sub_self, List.getElem_singleton]
       unfold sealN
       rw [if_pos hfr]
     ·rcases List.mem_append.1 hm with hm | hm
      ·exact h.bn hfr e hm
      ·rw [List.mem_singleton.1 hm]; simp only
       unfold sealN
       have : a.free = false := hfr
       rw [this]; rfl
     ·rcases List.mem_append.1 hm with hm | hm
      ·exact h.bp e hm
      ·rw [List.mem_singleton.1 hm]; simp only; omega
theorem macS_free {a : Alg} {key : Tg} {msg : List UInt8} (h : (macS a key msg).2.2 = 0) : (macS a key msg).1.free = a.free ∧ (macS a key msg).1.seed = a.seed ∧ (macS a key msg).1.fresh = a.fresh ∧ (macS a key msg).1.boxes = a.boxes := by
 by_cases h1 : 4096 < msg.length
 ·rw [macS_long h1] at h; cases h
 ·cases he : entL key msg a.macs with
  | some t => rw [macS_found h1 he]; exact ⟨rfl, rfl, rfl, rfl⟩
  | none =>
   by_cases hf : 65536 ≤ a.macs.length
   ·rw [macS_full h1 he hf] at h; cases h
   ·rw [macS_new h1 he hf]; exact ⟨rfl, rfl, rfl, rfl⟩
theorem macS_ok {a : Alg} (key : Tg) {msg : List UInt8} (h : msg.length ≤ 4096) (hl : a.macs.length < 65536) : (macS a key msg).2.2 = 0 := by
 cases he : entL key msg a.macs with
 | some t => rw [macS_found (by omega) he]
 | none => rw [macS_new (by omega) he (by omega)]
theorem keyS_ok {a : Alg} (h : a.fresh < 65536) : keyS a = ({ a with fresh := a.fresh + 1 }, if a.free then symT 107 (a.fresh + 1) else derT a.seed (a.fresh + 1), 0) := by
 unfold keyS; rw [if_neg (by omega)]
theorem sealS_ok {a : Alg} (key : Tg) {nonce : Int} {plain : List UInt8} (h0 : 0 ≤ nonce) (h1 : nonce ≤ 281474976710656) (hp : plain.length ≤ 256) (hl : a.boxes.length < 65536) : (sealS a key nonce plain).2.2 = 0 := by
 unfold sealS
 rw [if_neg (by omega), if_neg (by omega)]
 split
 ·rfl
 ·rw [if_neg (by omega)]
theorem sealS_free {a : Alg} {key : Tg} {nonce : Int} {plain : List UInt8} (h : (sealS a key nonce plain).2.2 = 0) : (sealS a key nonce plain).1.free = a.free ∧ (sealS a key nonce plain).1.macs = a.macs ∧ (sealS a key nonce plain).1.fresh = a.fresh ∧ (sealS a key nonce plain).1.seed = a.seed := by
 unfold sealS at h ⊢
 split at h
 ·cases h
 ·rename_i h1
  split at h
  ·cases h
  ·rename_i h2
   rw [if_neg h1, if_neg h2]
   split at h
   ·exact ⟨rfl, rfl, rfl, rfl⟩
   ·split at h
    ·cases h
    ·rename_i h3
     rw [if_neg h3]; exact ⟨rfl, rfl, rfl, rfl⟩
def openS (a : Alg) (key : Tg) (b : List UInt8) : List UInt8 × Nat :=
 if a.free = true then (match openL key b a.boxes with | some p => (p, 0) | none => ([], 14))
 else if b.length < 40 ∨ 296 < b.length then ([], 14)
 else if (hmacT key.1 ([98, 111, 120] ++ b.take (b.length - 32))).1 = b.drop (b.length - 32) then (strmB key.1 (be8 (b.take 8) : Int) ((b.take (b.length - 32)).drop 8), 0) else ([], 14)
theorem openL_ok {a : Alg} (ok : AlgOk a) (hl : a.boxes.length ≤ 1000000) (hfr : a.free = true) {e : BoxE} (he : e ∈ a.boxes) : openL e.key e.box a.boxes = some e.plain := by
 obtain ⟨p, hp⟩ := openL_of he rfl rfl
 obtain ⟨e', he', k1, k2, k3⟩ := openL_some hp
 obtain ⟨i, hi, rfl⟩ := List.getElem_of_mem he
 obtain ⟨j, hj, rfl⟩ := List.getElem_of_mem he'
 rw [ok.bf hfr i hi, ok.bf hfr j hj] at k2
 have := symApp_inj (by omega) (by omega) (by omega) (by omega) k2
 obtain rfl : j = i := by omega
 rw [hp, ← k3]
theorem sealB_len (key : List UInt8) (nonce : Int) (plain : List UInt8) : (sealB key nonce plain).length = plain.length + 40 := by
 unfold sealB
 rw [List.length_append, List.length_append, eightB_len, strmB_len, (hmacT _ _).2]; omega
theorem open_sealB {a : Alg} (hfr : a.free = false) (key : Tg) {nonce : Int} {plain : List UInt8} (h0 : 0 ≤ nonce) (h1 : nonce ≤ 281474976710656) (hp : plain.length ≤ 256) : openS a key (sealB key.1 nonce plain) = (plain, 0) := by
 have hl := sealB_len key.1 nonce plain
 have hs := strmB_len key.1 nonce plain
 have he := eightB_len nonce
 unfold openS
 rw [hfr, if_neg (by simp), if_neg (by omega)]
 have hA : (eightB nonce ++ strmB key.1 nonce plain).length = (sealB key.1 nonce plain).length - 32 := by rw [List.length_append, hl]; omega
 have ht : (sealB key.1 nonce plain).take ((sealB key.1 nonce plain).length - 32) = eightB nonce ++ strmB key.1 nonce plain := by
  rw [← hA]; unfold sealB; rw [List.take_left]
 have hd : (sealB key.1 nonce plain).drop ((sealB key.1 nonce plain).length - 32) = (hmacT key.1 ([98, 111, 120] ++ (eightB nonce ++ strmB key.1 nonce plain))).1 := by
  rw [← hA]; unfold sealB; rw [List.drop_left]
 have h8 : (sealB key.1 nonce plain).take 8 = eightB nonce := by
  unfold sealB; rw [List.append_assoc, ← he, List.take_left]
 have h8d : (eightB nonce ++ strmB key.1 nonce plain).drop 8 = strmB key.1 nonce plain := by rw [← he, List.drop_left]
 rw [ht, hd, if_pos rfl, h8, h8d, be8_eight nonce h0 (by omega), strm_strm]
theorem open_seal {a : Alg} (ok : AlgOk a) (hl : a.boxes.length ≤ 900000) {key : Tg} {nonce : Int} {plain : List UInt8} (h : (sealS a key nonce plain).2.2 = 0) : openS (sealS a key nonce plain).1 key (sealS a key nonce plain).2.1 = (plain, 0) := by
 have ok' := ok.sealed key nonce plain
 have hf := sealS_free h
 have hne : ∃ e ∈ (sealS a key nonce plain).1.boxes, e.key = key ∧ e.nonce = nonce ∧ e.plain = plain ∧ e.box = (sealS a key nonce plain).2.1 := by
  unfold sealS at h ⊢
  split at h
  ·cases h
  ·rename_i h1
   split at h
   ·cases h
   ·rename_i h2
    rw [if_neg h1, if_neg h2]
    split at h
    ·rename_i b hb
     obtain ⟨e, he, k⟩ := boxL_mem hb
     exact ⟨e, he, k⟩
    ·split at h
     ·cases h
     ·rename_i h3
      rw [if_neg h3]
      exact ⟨_, List.mem_append_right _ (List.mem_singleton.2 rfl), rfl, rfl, rfl, rfl⟩
 have hl' : (sealS a key nonce plain).1.boxes.length ≤ 1000000 := by
  unfold sealS at h ⊢
  split at h
  ·cases h
  ·rename_i h1
   split at h
   ·cases h
   ·rename_i h2
    rw [if_neg h1, if_neg h2]
    split at h
    ·simp only; omega
    ·split at h
     ·cases h
     ·rename_i h3
      rw [if_neg h3]; simp; omega
 obtain ⟨e, he, k1, k2, k3, k4⟩ := hne
 have hp := ok'.bp e he
 cases hfr : (sealS a key nonce plain).1.free with
 | true =>
  have := openL_ok ok' hl' hfr he
  rw [k1, k4] at this
  unfold openS
  rw [hfr, if_pos rfl, this, k3]
 | false =>
  have hb := ok'.bn hfr e he
  rw [← k4, hb, k1, k2, k3]
  exact open_sealB hfr key (by omega) (by omega) (by rw [← k3]; omega)
theorem open_mono {a : Alg} {key : Tg} {nonce : Int} {plain : List UInt8} (h : (sealS a key nonce plain).2.2 = 0) {k : Tg} {b p : List UInt8} (hk : openS a k b = (p, 0)) : openS (sealS a key nonce plain).1 k b = (p, 0) := by
 have hf := (sealS_free h).1
 cases hfr : a.free with
 | false =>
  unfold openS at hk ⊢
  rw [hf]
  rw [hfr] at hk ⊢
  exact hk
 | true =>
  unfold openS at hk ⊢
  rw [hf, hfr, if_pos rfl]
  rw [hfr, if_pos rfl] at hk
  cases ho : openL k b a.boxes with
  | none => rw [ho] at hk; cases hk
  | some q =>
   rw [ho] at hk
   have hq : openL k b (sealS a key nonce plain).1.boxes = some q := by
    unfold sealS at h ⊢
    split at h
    ·cases h
    ·rename_i h1
     split at h
     ·cases h
     ·rename_i h2
      rw [if_neg h1, if_neg h2]
      split at h
      ·exact ho
      ·split at h
       ·cases h
       ·rename_i h3
        rw [if_neg h3]; simp only; rw [openL_app, ho]
   rw [hq]; exact hk
theorem open_mac {a : Alg} {key : Tg} {msg : List UInt8} (h : (macS a key msg).2.2 = 0) (k : Tg) (b : List UInt8) : openS (macS a key msg).1 k b = openS a k b := by
 obtain ⟨h1, _, _, h2⟩ := macS_free h
 unfold openS
 rw [h1, h2]
end

def tagR (b : List UInt8) (u : Nat) : Tg × Nat × Nat := if h : u + 32 ≤ b.length then (⟨(b.drop u).take 32, by rw [List.length_take, List.length_drop]; omega⟩, u + 32, 0) else (zeroTag, u, 3)
theorem tagR_ok {b : List UInt8} {u : Nat} (h : u + 32 ≤ b.length) : tagR b u = (⟨(b.drop u).take 32, by rw [List.length_take, List.length_drop]; omega⟩, u + 32, 0) := by unfold tagR; rw [dif_pos h]
theorem tagR_bad {b : List UInt8} {u : Nat} (h : ¬ u + 32 ≤ b.length) : tagR b u = (zeroTag, u, 3) := by unfold tagR; rw [dif_neg h]
theorem tagR_used {b : List UInt8} {u : Nat} (h : (tagR b u).2.2 = 0) : (tagR b u).2.1 = u + 32 := by
 by_cases h' : u + 32 ≤ b.length
 ·rw [tagR_ok h']
 ·rw [tagR_bad h'] at h; cases h
theorem tagR_len {b : List UInt8} {u : Nat} (h : (tagR b u).2.2 = 0) : u + 32 ≤ b.length := by
 by_cases h' : u + 32 ≤ b.length
 ·exact h'
 ·rw [tagR_bad h'] at h; cases h
theorem RBytes32_short (b : List UInt8) (u : Nat) (hu : u ≤ b.length) (hs : b.length - u < 32) (_hb : b.length ≤ 1000000) (d k : Nat) :
  ACall Tryz.prog 211 [.ptr d [] 0, .lit (.int .i64 32)] k [(d, RdBox b u 0)] (.slice none (List.replicate 32 (.lit (.int .u8 0)))) [(d, RdBox b u 3)] := by
 have hs' : (b.length : Int) - (u : Int) < 32 := by omega
 simp only [RdBox]
 refine Bd Tryz.func211 Tryz.ntmps211 fun σ N hp hpn hk hkn hfree => ?_
 obtain ⟨hd, hdn⟩ := HD0 hp hpn; clear hp hpn
 refine Wk ?_
 exact RV (d) (.box 226 (.agg [.slice none (b.map byteAV), .lit (.int .i64 (u : Int)), .lit (.int .i64 3)]))
theorem RBytes32_spec (b : List UInt8) (u : Nat) (hs : u + 32 ≤ b.length) (hb : b.length ≤ 1000000) (d k : Nat) :
  ACall Tryz.prog 211 [.ptr d [] 0, .lit (.int .i64 32)] k [(d, RdBox b u 0)] (.slice none (((b.drop u).take 32).map byteAV)) [(d, RdBox b (u + 32) 0)] := by
 have hs' : ¬ (b.length : Int) - (u : Int) < 32 := by omega
 have hsl := take_drop_bytes b u 32
 have hu8 : ((u : Int) + 32).toNat = u + 32 := by omega
 generalize (b.drop u).take 32 = L at *
 simp only [RdBox]
 refine Bd Tryz.func211 Tryz.ntmps211 fun σ N hp hpn hk hkn hfree => ?_
 obtain ⟨hd, hdn⟩ := HD0 hp hpn; clear hp hpn
 refine Wk ?_
 exact RV (d) (.box 226 (.agg [.slice none (b.map byteAV), .lit (.int .i64 ((u : Int) + 32)), .lit (.int .i64 0)]))
theorem RTag_ok (b : List UInt8) (u : Nat) (h : u + 32 ≤ b.length) (hb : b.length ≤ 1000000) (d k : Nat) :
  ACall Tryz.prog 182 [.ptr d [] 0] k [(d, RdBox b u 0)] (tagAV (tagR b u).1) [(d, RdBox b (u + 32) 0)] := by
 have c1 := RBytes32_spec b u h hb
 have hkA : tagAV (tagR b u).1 = .agg (((b.drop u).take 32).map byteAV) := by rw [tagR_ok h]; rfl
 rw [hkA]
 clear hkA
 have hl : ((b.drop u).take 32).length = 32 := by rw [List.length_take, List.length_drop]; omega
 generalize (b.drop u).take 32 = L at *
 have htk : (L.map byteAV).take 32 = L.map byteAV := List.take_of_length_le (by rw [List.length_map]; omega)
 have hz0 : (zeroTag.val.map byteAV).drop 32 = [] := rfl
 have hs1 : (AV.agg (L.map byteAV)).sz = 32 := by simp only [AV.sz, szl_bytes]; exact hl
 have hs2 : (AV.agg (L.map byteAV)).cell = true := celll_bytes L
 simp only [RdBox] at *
 refine Bd Tryz.func182 Tryz.ntmps182 fun σ N hp hpn hk hkn hfree => ?_
 obtain ⟨hd, hdn⟩ := HD0 hp hpn; clear hp hpn
 have M : Mut (N + 2) := ⟨⟩
 have hcs := And.intro (c1 d) True.intro
 clear c1
 refine Wk ?_
 exact RW (d) (.box 226 (.agg [.slice none (b.map byteAV), .lit (.int .i64 ((u : Int) + 32)), .lit (.int .i64 0)]))
theorem RTag_zero (b : List UInt8) (u e e' : Nat) (d k : Nat)
  (c1 : ∀ k, ACall Tryz.prog 211 [.ptr d [] 0, .lit (.int .i64 32)] k [(d, RdBox b u e)] (.slice none (List.replicate 32 (.lit (.int .u8 0)))) [(d, RdBox b u e')]) :
  ACall Tryz.prog 182 [.ptr d [] 0] k [(d, RdBox b u e)] (tagAV zeroTag) [(d, RdBox b u e')] := by
 have hz : List.replicate 32 (AV.lit (.int .u8 0)) = zeroTag.1.map byteAV := rfl
 rw [hz] at c1
 obtain ⟨L, hL⟩ : ∃ L, zeroTag.1 = L := ⟨_, rfl⟩
 have hl : L.length = 32 := by rw [← hL]; exact zeroTag.2
 have hkA : tagAV zeroTag = .agg (L.map byteAV) := by rw [← hL]; rfl
 rw [hkA]
 rw [hL] at c1
 have htk : (L.map byteAV).take 32 = L.map byteAV := List.take_of_length_le (by rw [List.length_map]; omega)
 have hz0 : (L.map byteAV).drop 32 = [] := List.drop_eq_nil_of_le (by rw [List.length_map]; omega)
 have hs1 : (AV.agg (L.map byteAV)).sz = 32 := by simp only [AV.sz, szl_bytes]; exact hl
 have hs2 : (AV.agg (L.map byteAV)).cell = true := celll_bytes L
 clear hz
 simp only [RdBox] at *
 refine Bd Tryz.func182 Tryz.ntmps182 fun σ N hp hpn hk hkn hfree => ?_
 obtain ⟨hd, hdn⟩ := HD0 hp hpn; clear hp hpn
 have M : Mut (N + 2) := ⟨⟩
 have hcs := And.intro c1 True.intro
 clear c1
 refine Wk ?_
 exact RW (d) (.box 226 (.agg [.slice none (b.map byteAV), .lit (.int .i64 (u : Int)), .lit (.int .i64 (e' : Int))]))
theorem RTag_spec (b : List UInt8) (u : Nat) (hu : u ≤ b.length) (hb : b.length ≤ 1000000) (d k : Nat) :
  ACall Tryz.prog 182 [.ptr d [] 0] k [(d, RdBox b u 0)] (tagAV (tagR b u).1) [(d, RdBox b (tagR b u).2.1 (tagR b u).2.2)] := by
 by_cases h : u + 32 ≤ b.length
 ·have := RTag_ok b u h hb d k
  rw [tagR_ok h] at this ⊢
  exact this
 ·rw [tagR_bad h]
  exact RTag_zero b u 0 3 d k fun k => RBytes32_short b u hu (by omega) hb d k
section
variable [W : W32]
theorem openS_len (a : Alg) (m : Nat) (ha : AlgIn a m) (key : Tg) (b : List UInt8) (hb : b.length ≤ 100000) : (openS a key b).1.length ≤ 100000 := by
 unfold openS
 split
 ·split
  ·rename_i p hp
   obtain ⟨e, he, _, _, h3⟩ := openL_some hp
   rw [← h3]; exact (ha.bm e he).1
  ·simp
 ·split
  ·simp
  ·split
   ·simp only [strmB_len, List.length_drop, List.length_take]; omega
   ·simp
def soAV (r : List UInt8 × Nat) : AV := .tup [.slice none (r.1.map byteAV), .lit (.int .i64 (r.2 : Nat))]
set_option maxHeartbeats 1000000 in
theorem refOpen_free (sd : Tg) (fs : Int) (L : List MacE) (B : List BoxE) (key : Tg) (b : List UInt8) (hl : B.length ≤ 1000000) (hm : ∀ e ∈ B, e.plain.length ≤ 100000 ∧ e.box.length ≤ 100000) (hb : b.length ≤ 100000) (k : Nat) :
  ACall Tryz.prog 181 [algAV ⟨true, sd, fs, L, B⟩, tagAV key, .slice none (b.map byteAV)] k [] (soAV (openS ⟨true, sd, fs, L, B⟩ key b)) [] := by
 unfold openS
 rw [if_pos rfl]
 simp only
 generalize hR : openL key b B = R
 refine Bd Tryz.func181 Tryz.ntmps181 fun σ N hp hpn hk hkn hfree => ?_
 have haA : algAV ⟨true, sd, fs, L, B⟩ = .agg [.lit (.bool true), tagAV sd, .lit (.int .i64 fs), .slice none (L.map macAV), .slice none (B.map sealAV)] := rfl
 refine Wk ?_
 refine go_loopF mixed (by kernel_rfl) [6, 7, 8, 15, 16, 17, 18, 19, 20, 21, 22, 23, 24, 25, 26, 27, 28, 29, 30, 31, 32, 33, 34, 35, 36, 37, 38, 39, 40, 41, 42, 43, 44, 45, 46, 47] [N, N+1] (fun m_ s_ σ_ n_ => ∃ (u : Nat), m_ = B.length - u ∧ s_ 8 = .lit (.int .i64 u) ∧ σ_ (N) = .box 38 (.agg [.lit (.bool true), tagAV sd, .lit (.int .i64 fs), .slice none (L.map macAV), .slice none (B.map sealAV)]) ∧ σ_ (N+1) = .box 29 (tagAV key) ∧ (u ≤ B.length) ∧ (openL key b (B.drop u) = R)) ⟨_, 0, rfl, WF, WF, WF, WC, WC⟩ ?_
 intro m_1 s_1 σ_1 n_1 hs_1 hf_1 hn_1 hI_1
 obtain ⟨u, hm_1, h1_8, e1_0, e1_1, hu, hd⟩ := hI_1
 have h1_2 := KS hs_1 2
 have h1_3 := KS hs_1 3
 have h1_4 := KS hs_1 4
 have hlow := KL (N := N) (σ := σ) hf_1
 clear haA
 by_cases hul : u = B.length
 ·subst hul
  rw [List.drop_length] at hd
  simp only [openL] at hd
  subst hd
  clear hR hm
  unfold soAV
  simp only [List.map_nil]
  exact WL
 ·have hu1 : u < B.length := by omega
  rw [List.drop_eq_getElem_cons hu1, openL] at hd
  have hmz := hm _ (List.getElem_mem hu1)
  obtain ⟨z, hz⟩ : ∃ z, B[u] = z := ⟨_, rfl⟩
  rw [hz] at hd hmz
  obtain ⟨zk, zn, zp, zb⟩ := z
  simp only at hd hmz
  have hzd : sealAV ⟨zk, zn, zp, zb⟩ = .agg [tagAV zk, .lit (.int .i64 zn), bAV zp, bAV zb] := rfl
  have hzb := bAV_def zp
  have hzb2 := bAV_def zb
  obtain ⟨hmz1, hmz2⟩ := hmz
  have c1 := Same_spec zb b (by omega)
  clear hR hm
  by_cases h1 : zk = key
  ·by_cases h3 : zb = b
   ·rw [if_pos ⟨h1, h3⟩] at hd
    subst hd
    rw [decide_eq_true h3] at c1
    have hcs := And.intro c1 True.intro
    clear c1
    subst h1
    subst h3
    unfold soAV
    simp only
    exact WL
   ·rw [if_neg (fun h => h3 h.2)] at hd
    rw [decide_eq_false h3] at c1
    have hcs := And.intro c1 True.intro
    clear c1
    subst h1
    refine Wk ?_
    exact ⟨WS, WG, WN, _, (show B.length - (u + 1) < m_1 by omega), u + 1, rfl, WF, WF, WF, WC, WC⟩
  ·rw [if_neg (fun h => h1 h.1)] at hd
   have d1 : decide (zk = key) = false := decide_eq_false h1
   clear c1
   refine Wk ?_
   exact ⟨WS, WG, WN, _, (show B.length - (u + 1) < m_1 by omega), u + 1, rfl, WF, WF, WF, WC, WC⟩
set_option maxHeartbeats 1000000 in
theorem refOpen_real (sd : Tg) (fs : Int) (L : List MacE) (B : List BoxE) (key : Tg) (b : List UInt8) (hb : b.length ≤ 100000) (k : Nat) :
  ACall Tryz.prog 181 [algAV ⟨false, sd, fs, L, B⟩, tagAV key, .slice none (b.map byteAV)] k [] (soAV (openS ⟨false, sd, fs, L, B⟩ key b)) [] := by
 unfold openS
 rw [if_neg (by simp)]
 have haA : algAV ⟨false, sd, fs, L, B⟩ = .agg [.lit (.bool false), tagAV sd, .lit (.int .i64 fs), .slice none (L.map macAV), .slice none (B.map sealAV)] := rfl
 unfold soAV
 by_cases h1 : b.length < 40
 ·rw [if_pos (.inl h1)]
  have h1i : (b.length : Int) < 40 := by omega
  simp only [List.map_nil]
  refine Bd Tryz.func181 Tryz.ntmps181 fun σ N hp hpn hk hkn hfree => ?_
  exact WL
 have h1i : ¬ (b.length : Int) < 40 := by omega
 by_cases h2 : 296 < b.length
 ·rw [if_pos (.inr h2)]
  have h2i : (296 : Int) < (b.length : Int) := by omega
  simp only [List.map_nil]
  refine Bd Tryz.func181 Tryz.ntmps181 fun σ N hp hpn hk hkn hfree => ?_
  exact WL
 have h2i : ¬ (296 : Int) < (b.length : Int) := by omega
 rw [if_neg (by omega)]
 have hn32 : ((b.length : Int) - 32).toNat = b.length - 32 := by omega
 have hn32i : (0 : Int) ≤ (b.length : Int) - 32 := by omega
 have hA1 : (b.map byteAV).take (b.length - 32) = (b.take (b.length - 32)).map byteAV := by rw [List.map_take]
 have hD1 : (b.map byteAV).drop (b.length - 32) = (b.drop (b.length - 32)).map byteAV := by rw [List.map_drop]
 have hD2 : ((b.take (b.length - 32)).map byteAV).drop 8 = ((b.take (b.length - 32)).drop 8).map byteAV := by rw [List.map_drop]
 have hl1 : (b.take (b.length - 32)).length = b.length - 32 := by rw [List.length_take]; omega
 have hl2 : (b.drop (b.length - 32)).length = 32 := by rw [List.length_drop]; omega
 have hL8 : (b.take 8).length = 8 := by rw [List.length_take]; omega
 have hbd := be8_bound (L := b.take 8) (i := 8) hL8 (Nat.le_refl _)
 rw [List.take_of_length_le (i := 8) (l := b.take 8) (by omega)] at hbd
 have c1 := Word_spec [98, 111, 120] (b.take (b.length - 32)) (by decide) (by omega)
 have c2 := Hmac_spec key.1 ([98, 111, 120] ++ b.take (b.length - 32)) (by rw [key.2]; decide) (by simp; omega)
 generalize hMs : [98, 111, 120] ++ b.take (b.length - 32) = Ms at *
 generalize hmacT key.1 Ms = T at *
 have c3 := Same_spec T.1 (b.drop (b.length - 32)) (by rw [T.2]; decide)
 have c4 := stream_spec key (be8 (b.take 8)) hbd.1 ((b.take (b.length - 32)).drop 8) (by rw [List.length_drop]; omega)
 have ht1 := tagAV_sz T
 have ht2 := tagAV_cell T
 have hs1 := tagAV_sz key
 have hs2 := tagAV_cell key
 obtain ⟨K, hK⟩ := key
 obtain ⟨T, hT⟩ := T
 have hkA : tagAV ⟨K, hK⟩ = .agg (K.map byteAV) := rfl
 have htA : tagAV ⟨T, hT⟩ = .agg (T.map byteAV) := rfl
 simp only [hkA, htA] at hs1 hs2 ht1 ht2 c2 c3 c4 ⊢
 clear hkA htA
 have hs3 : AV.celll (K.map byteAV) = true := celll_bytes K
 have ht3 : AV.celll (T.map byteAV) = true := celll_bytes T
 have htk : (K.map byteAV).take 32 = K.map byteAV := List.take_of_length_le (by rw [List.length_map]; omega)
 have htk2 : (T.map byteAV).take 32 = T.map byteAV := List.take_of_length_le (by rw [List.length_map]; omega)
 by_cases h3 : T = b.drop (b.length - 32)
 ·rw [if_pos h3]
  rw [decide_eq_true h3] at c3
  simp only
  generalize strmB K (be8 (b.take 8) : Int) ((b.take (b.length - 32)).drop 8) = St at *
  have h0b : be8 (List.take 0 b) = 0 := by simp [be8]
  clear hMs h3
  generalize (b.take (b.length - 32)).drop 8 = Bq at *
  generalize b.drop (b.length - 32) = Dr at *
  generalize b.take (b.length - 32) = Tk at *
  refine Bd Tryz.func181 Tryz.ntmps181 fun σ N hp hpn hk hkn hfree => ?_
  have hcs := And.intro c1 (And.intro c2 (And.intro c3 True.intro))
  clear c1 c2 c3
  refine Wk ?_
  refine go_loopF mixed (by kernel_rfl) [11, 12, 70, 71, 72, 73, 74, 75, 76, 77, 78, 79, 80, 81] [] (fun m_ s_ σ_ n_ => ∃ (i : Nat) (v : Nat), m_ = 8 - i ∧ s_ 12 = .lit (.int .i64 i) ∧ s_ 11 = .lit (.int .u64 v) ∧ (i ≤ 8) ∧ (be8 (b.take i) = v)) ⟨_, 0, 0, rfl, WF, WF, WC, WC⟩ ?_
  intro m_2 s_2 σ_2 n_2 hs_2 hf_2 hn_2 hI_2
  obtain ⟨i, v, hm_2, h2_12, h2_11, hi, hv⟩ := hI_2
  have h2_2 := KS hs_2 2
  have h2_4 := KS hs_2 4
  have h2_6 := KS hs_2 6
  have h2_7 := KS hs_2 7
  have h2_9 := KS hs_2 9
  have k2_0 := KE hf_2 (N+1)
  have hlow := KL (N := N) (σ := σ) hf_2
  clear h0b
  by_cases hi8 : i = 8
  ·subst hi8
   rw [hv] at c4
   have hcs := And.intro c4 True.intro
   clear c4 hv
   exact WL
  ·have hil : i < b.length := by omega
   have hi8i : (i : Int) < 8 := by omega
   obtain ⟨x, hx⟩ : ∃ x, b[i] = x := ⟨_, rfl⟩
   have hxx : byteAV x = .lit (.int .u8 x.toNat) := rfl
   have hxl := x.toNat_lt
   have hm3 := be8_take hil
   rw [hv, hx] at hm3
   have hvb : v < 72057594037927936 := by
    rw [← hv]
    have := (be8_bound (L := b.take 8) (i := i) hL8 (by omega)).2 (by omega)
    rw [List.take_take, Nat.min_eq_left (by omega)] at this
    exact this
   have w1 : IntKind.u64.wrap (256 * (v : Int)) = 256 * (v : Int) := wrap_u64r (by omega) (by omega)
   have w2 : IntKind.u64.wrap (x.toNat : Int) = (x.toNat : Int) := wrap_u64r (by omega) (by omega)
   have w3 : IntKind.u64.wrap (256 * (v : Int) + (x.toNat : Int)) = 256 * (v : Int) + (x.toNat : Int) := wrap_u64r (by omega) (by omega)
   clear hv c4
   refine Wk ?_
   exact ⟨WS, WG, WN, _, (show 8 - (i + 1) < m_2 by omega), i + 1, 256 * v + x.toNat, rfl, WF, WF, WC, WC⟩
 ·rw [if_neg h3]
  rw [decide_eq_false h3] at c3
  simp only [List.map_nil]
  clear hMs h3 c4
  generalize b.drop (b.length - 32) = Dr at *
  generalize b.take (b.length - 32) = Tk at *
  refine Bd Tryz.func181 Tryz.ntmps181 fun σ N hp hpn hk hkn hfree => ?_
  have hcs := And.intro c1 (And.intro c2 (And.intro c3 True.intro))
  clear c1 c2 c3
  exact WL
theorem refOpen_spec (a : Alg) (m : Nat) (ha : AlgIn a m) (hm : m ≤ 900000) (key : Tg) (b : List UInt8) (hb : b.length ≤ 100000) (k : Nat) :
  ACall Tryz.prog 181 [algAV a, tagAV key, .slice none (b.map byteAV)] k [] (soAV (openS a key b)) [] := by
 obtain ⟨fr, sd, fs, L, B⟩ := a
 cases fr with
 | true => exact refOpen_free sd fs L B key b (by have := ha.bl; simp only at this; omega) ha.bm hb k
 | false => exact refOpen_real sd fs L B key b hb k
end

def encPS (p : Pr) : List UInt8 × Nat := if predB p = true then (encP p, 0) else ([], 5)
theorem encPS_len (p : Pr) : (encPS p).1.length ≤ 40 := by
 unfold encPS
 split
 ·rename_i h; exact (encP_len p h).2
 ·simp
theorem refEncP_spec (p : Pr) (hp0 : PrOk p) (k : Nat) : ACall Tryz.prog 155 [prAV p] k [] (encAV (encPS p)) [] := by
 unfold encPS encAV
 cases h : predB p with
 | false => exact (refEnc_bad p hp0 h k).result (AV.sub_tup (.cons AV.le_nils0 (.cons (AV.le_refl _) .nil)))
 | true => exact refEnc_spec p hp0 h k
def grantM (t : List UInt8) : List UInt8 := [103, 114, 97, 110, 116] ++ t
def sealM (t : List UInt8) : List UInt8 := [115, 101, 97, 108] ++ t
def condM (p : Pr) : List UInt8 := [99, 111, 110, 100, 105, 116, 105, 111, 110] ++ (encPS p).1
def bindM (leaf : Tg) (g n : Nat) : List UInt8 := [98, 105, 110, 100] ++ (leaf.1 ++ (leb g ++ leb n))
def reqM (g n : Nat) : List UInt8 := [114, 101, 113, 117, 101, 115, 116] ++ (leb g ++ leb n)
theorem condM_len (p : Pr) : (condM p).length ≤ 49 := by have := encPS_len p; simp [condM]; omega
theorem bindM_len (leaf : Tg) {g n : Nat} (hg : g ≤ 281474976710656) (hn : n ≤ 281474976710656) : (bindM leaf g n).length ≤ 60 := by
 have h1 := leb_len g 7 (by omega)
 have h2 := leb_len n 7 (by omega)
 simp [bindM, leaf.2]; omega
theorem reqM_len {g n : Nat} (hg : g ≤ 281474976710656) (hn : n ≤ 281474976710656) : (reqM g n).length ≤ 60 := by
 have h1 := leb_len g 7 (by omega)
 have h2 := leb_len n 7 (by omega)
 simp [reqM]; omega
theorem refGrantM_spec (t : List UInt8) (ht : t.length ≤ 1000000) (k : Nat) :
  ACall Tryz.prog 97 [.slice none (t.map byteAV)] k [] (.slice none ((grantM t).map byteAV)) [] := by
 have c2 := Word_spec [103, 114, 97, 110, 116] t (by decide) ht
 unfold grantM
 obtain ⟨M, hM⟩ : ∃ M, [103, 114, 97, 110, 116] ++ t = M := ⟨_, rfl⟩
 rw [hM] at c2 ⊢
 clear hM
 refine Bd Tryz.func97 Tryz.ntmps97 fun σ N hp hpn hk hkn hfree => ?_
 have hcs := And.intro c2 True.intro
 clear c2
 exact W0
theorem refSealM_spec (t : List UInt8) (ht : t.length ≤ 1000000) (k : Nat) :
  ACall Tryz.prog 67 [.slice none (t.map byteAV)] k [] (.slice none ((sealM t).map byteAV)) [] := by
 have c2 := Word_spec [115, 101, 97, 108] t (by decide) ht
 unfold sealM
 obtain ⟨M, hM⟩ : ∃ M, [115, 101, 97, 108] ++ t = M := ⟨_, rfl⟩
 rw [hM] at c2 ⊢
 clear hM
 refine Bd Tryz.func67 Tryz.ntmps67 fun σ N hp hpn hk hkn hfree => ?_
 have hcs := And.intro c2 True.intro
 clear c2
 exact W0
theorem refCondM_spec (p : Pr) (hp0 : PrOk p) (k : Nat) :
  ACall Tryz.prog 86 [prAV p] k [] (.slice none ((condM p).map byteAV)) [] := by
 have c1 := refEncP_spec p hp0
 have hl := encPS_len p
 have c2 := Word_spec [99, 111, 110, 100, 105, 116, 105, 111, 110] (encPS p).1 (by decide) (by omega)
 unfold encAV at c1
 unfold condM
 generalize encPS p = X at *
 obtain ⟨lb, e⟩ := X
 simp only at c1 c2 hl ⊢
 obtain ⟨M, hM⟩ : ∃ M, [99, 111, 110, 100, 105, 116, 105, 111, 110] ++ lb = M := ⟨_, rfl⟩
 rw [hM] at c2 ⊢
 clear hM
 refine Bd Tryz.func86 Tryz.ntmps86 fun σ N hp hpn hk hkn hfree => ?_
 have hcs := And.intro c1 (And.intro c2 True.intro)
 clear c1 c2
 exact W0
theorem requested_spec (g n : Nat) (hg : g ≤ 281474976710656) (hn : n ≤ 281474976710656) (k : Nat) :
  ACall Tryz.prog 157 [.agg [.lit (.int .i64 g), .lit (.int .i64 n)]] k [] (.slice none ((leb g ++ leb n).map byteAV)) [] := by
 have c1 := fun k => Number_spec g k (by omega)
 have c2 := fun k => Number_spec_f n k (by omega)
 have h1 := leb_len g 7 (by omega)
 have h2 := leb_len n 7 (by omega)
 rw [List.map_append]
 generalize leb g = G at *
 generalize leb n = Nn at *
 refine Bd Tryz.func157 Tryz.ntmps157 fun σ N hp hpn hk hkn hfree => ?_
 have hcs := And.intro c1 (And.intro c2 True.intro)
 clear c1 c2
 exact WM
theorem refBindM_spec (leaf : Tg) (g n : Nat) (hg : g ≤ 281474976710656) (hn : n ≤ 281474976710656) (k : Nat) :
  ACall Tryz.prog 91 [tagAV leaf, .agg [.lit (.int .i64 g), .lit (.int .i64 n)]] k [] (.slice none ((bindM leaf g n).map byteAV)) [] := by
 have c1 := requested_spec g n hg hn
 have h1 := leb_len g 7 (by omega)
 have h2 := leb_len n 7 (by omega)
 obtain ⟨R, hR⟩ : ∃ R, leb g ++ leb n = R := ⟨_, rfl⟩
 have hRl : R.length ≤ 100 := by rw [← hR, List.length_append]; omega
 unfold bindM
 rw [hR] at c1 ⊢
 have c2 := Word_spec [98, 105, 110, 100] (leaf.1 ++ R) (by decide) (by rw [List.length_append, leaf.2]; omega)
 obtain ⟨M, hM⟩ : ∃ M, [98, 105, 110, 100] ++ (leaf.1 ++ R) = M := ⟨_, rfl⟩
 rw [hM] at c2 ⊢
 have hs1 := tagAV_sz leaf
 have hs2 := tagAV_cell leaf
 obtain ⟨K, hK⟩ := leaf
 have hkA : tagAV ⟨K, hK⟩ = .agg (K.map byteAV) := rfl
 simp only [hkA] at hs1 hs2 c2 ⊢
 clear hkA hM
 have hs3 : AV.celll (K.map byteAV) = true := celll_bytes K
 have htk : (K.map byteAV).take 32 = K.map byteAV := List.take_of_length_le (by rw [List.length_map]; omega)
 rw [List.map_append] at c2
 refine Bd Tryz.func91 Tryz.ntmps91 fun σ N hp hpn hk hkn hfree => ?_
 have hcs := And.intro c1 (And.intro c2 True.intro)
 clear c1 c2
 exact W0
theorem refReqM_spec (g n : Nat) (hg : g ≤ 281474976710656) (hn : n ≤ 281474976710656) (k : Nat) :
  ACall Tryz.prog 131 [.agg [.lit (.int .i64 g), .lit (.int .i64 n)]] k [] (.slice none ((reqM g n).map byteAV)) [] := by
 have c1 := requested_spec g n hg hn
 have h1 := leb_len g 7 (by omega)
 have h2 := leb_len n 7 (by omega)
 obtain ⟨R, hR⟩ : ∃ R, leb g ++ leb n = R := ⟨_, rfl⟩
 have hRl : R.length ≤ 100 := by rw [← hR, List.length_append]; omega
 unfold reqM
 rw [hR] at c1 ⊢
 have c2 := Word_spec [114, 101, 113, 117, 101, 115, 116] R (by decide) (by omega)
 obtain ⟨M, hM⟩ : ∃ M, [114, 101, 113, 117, 101, 115, 116] ++ R = M := ⟨_, rfl⟩
 rw [hM] at c2 ⊢
 clear hM
 refine Bd Tryz.func131 Tryz.ntmps131 fun σ N hp hpn hk hkn hfree => ?_
 have hcs := And.intro c1 (And.intro c2 True.intro)
 clear c1 c2
 exact W0
def rqB (r : Rq) : Bool := decide (0 ≤ r.gate) && decide (r.gate < 8) && decide (1 ≤ r.nonce) && decide (r.nonce ≤ 281474976710656)
theorem rqB_iff {r : Rq} : rqB r = true ↔ (0 ≤ r.gate ∧ r.gate < 8) ∧ 1 ≤ r.nonce ∧ r.nonce ≤ 281474976710656 := by
 unfold rqB; simp [Bool.and_eq_true, and_assoc]
theorem refRqOk_spec (r : Rq) (k : Nat) : ACall Tryz.prog 90 [rqAV r] k [] (.lit (.bool (rqB r))) [] := by
 obtain ⟨x, y⟩ := r
 unfold rqAV
 by_cases h1 : 0 ≤ x
 ·by_cases h2 : x < 8
  ·by_cases h3 : 1 ≤ y
   ·by_cases h4 : y ≤ 281474976710656
    ·have hr : rqB ⟨x, y⟩ = true := by simp [rqB, *]
     rw [hr]
     refine Bd Tryz.func90 Tryz.ntmps90 fun σ N hp hpn hk hkn hfree => ?_
     exact W0
    ·have hr : rqB ⟨x, y⟩ = false := by simp [rqB, *]
     rw [hr]
     refine Bd Tryz.func90 Tryz.ntmps90 fun σ N hp hpn hk hkn hfree => ?_
     exact W0
   ·have hr : rqB ⟨x, y⟩ = false := by simp [rqB, *]
    rw [hr]
    refine Bd Tryz.func90 Tryz.ntmps90 fun σ N hp hpn hk hkn hfree => ?_
    exact W0
  ·have hr : rqB ⟨x, y⟩ = false := by simp [rqB, *]
   rw [hr]
   refine Bd Tryz.func90 Tryz.ntmps90 fun σ N hp hpn hk hkn hfree => ?_
   exact W0
 ·have hr : rqB ⟨x, y⟩ = false := by simp [rqB, *]
  rw [hr]
  refine Bd Tryz.func90 Tryz.ntmps90 fun σ N hp hpn hk hkn hfree => ?_
  exact W0
section
variable [W : W32]
def restrS (a : Alg) (d : Di) (p : Pr) : Alg × Di × Nat :=
 if predB p = false then (alg0, di0, 5) else if p.kind = 7 then (alg0, di0, 6) else if 8 ≤ d.conds.length then (alg0, di0, 2) else
 if (macS a d.tag (condM p)).2.2 = 0 then ((macS a d.tag (condM p)).1, ⟨d.ticket, d.conds ++ [p], (macS a d.tag (condM p)).2.1⟩, 0) else (alg0, di0, (macS a d.tag (condM p)).2.2)
def mdAV (r : Alg × Di × Nat) : AV := .tup [algAV r.1, diAV r.2.1, .lit (.int .i64 (r.2.2 : Nat))]
theorem restrS_in {a : Alg} {m : Nat} (h : AlgIn a m) (d : Di) (p : Pr) : AlgIn (restrS a d p).1 (m + 1) := by
 unfold restrS
 split
 ·exact alg0_in _
 ·split
  ·exact alg0_in _
  ·split
   ·exact alg0_in _
   ·split
    ·exact macS_in h _ _
    ·exact alg0_in _
set_option maxHeartbeats 1000000 in
theorem refRestr_spec (a : Alg) (m : Nat) (ha : AlgIn a m) (hm : m ≤ 900000) (d : Di) (hdl : d.conds.length ≤ 10000) (p : Pr) (hp0 : PrOk p) (k : Nat) :
  ACall Tryz.prog 21 [algAV a, diAV d, prAV p] k [] (mdAV (restrS a d p)) [] := by
 have c1 := refPred_spec p hp0
 have c2 := refCondM_spec p hp0
 have c3 := Mac_spec a d.tag (condM p) (by have := ha.ml; omega) ha.mm
 unfold restrS
 obtain ⟨ti, L, tg⟩ := d
 simp only at hdl c3 ⊢
 generalize macS a tg (condM p) = X at *
 obtain ⟨a1, t1, e1'⟩ := X
 generalize condM p = M at *
 unfold mkAV at c3
 simp only at c3 ⊢
 have hpp : prAV p = .agg [.lit (.int .i64 p.kind), .lit (.int .u64 p.mask), .lit (.int .i64 p.frm), .lit (.int .i64 p.to), .lit (.string ⟨p.name.toArray⟩), .lit (.int .i64 p.num)] := rfl
 clear ha
 have hdA : diAV ⟨ti, L, tg⟩ = .agg [.slice none (ti.map byteAV), .slice none (L.map prAV), tagAV tg] := rfl
 rw [hdA]
 clear hdA
 cases hpv : predB p with
 | false =>
  rw [if_pos rfl]
  rw [hpv] at c1
  unfold mdAV
  simp only [alg0_eq, di0_eq]
  clear c2 c3 hpp
  refine Bd Tryz.func21 Tryz.ntmps21 fun σ N hp hpn hk hkn hfree => ?_
  have hcs := And.intro c1 True.intro
  clear c1
  refine Wk ?_
  exact WD
 | true =>
  rw [if_neg (by simp)]
  rw [hpv] at c1
  by_cases h7 : p.kind = 7
  ·rw [if_pos h7]
   unfold mdAV
   simp only [alg0_eq, di0_eq]
   clear c2 c3
   rw [h7] at hpp
   refine Bd Tryz.func21 Tryz.ntmps21 fun σ N hp hpn hk hkn hfree => ?_
   have hcs := And.intro c1 True.intro
   clear c1
   refine Wk ?_
   exact WD
  ·rw [if_neg h7]
   have h7b : (p.kind == 7) = false := by rw [beq_eq_false_iff_ne]; exact h7
   by_cases h8 : 8 ≤ L.length
   ·rw [if_pos h8]
    have h8i : (8 : Int) ≤ (L.length : Int) := by omega
    unfold mdAV
    simp only [alg0_eq, di0_eq]
    clear c2 c3
    refine Bd Tryz.func21 Tryz.ntmps21 fun σ N hp hpn hk hkn hfree => ?_
    have hcs := And.intro c1 True.intro
    clear c1
    refine Wk ?_
    exact WD
   ·rw [if_neg h8]
    have h8i : ¬ (8 : Int) ≤ (L.length : Int) := by omega
    have hb : (L.length + 1) * 56 ≤ 140737488355328 := by omega
    have hb0 : L.length * 56 ≤ 140737488355328 := by omega
    have hb1 : L.length ≤ 140737488355327 := by omega
    by_cases he : e1' = 0
    ·subst he
     rw [if_pos rfl]
     unfold mdAV diAV
     simp only [List.map_append, List.map_cons, List.map_nil]
     refine Bd Tryz.func21 Tryz.ntmps21 fun σ N hp hpn hk hkn hfree => ?_
     have hcs := And.intro c1 (And.intro c2 (And.intro c3 True.intro))
     clear c1 c2 c3
     refine Wk ?_
     exact WD
    ·rw [if_neg he]
     have h1i : ((e1' : Int) != 0) = true := by simp; omega
     unfold mdAV
     simp only [alg0_eq, di0_eq]
     refine Bd Tryz.func21 Tryz.ntmps21 fun σ N hp hpn hk hkn hfree => ?_
     have hcs := And.intro c1 (And.intro c2 (And.intro c3 True.intro))
     clear c1 c2 c3
     refine Wk ?_
     exact WD
def bindS (a : Alg) (d : Di) (leaf : Tg) (r : Rq) : Alg × Bo × Nat :=
 if rqB r = false then (alg0, bo0, 1) else
 if (macS a d.tag (bindM leaf r.gate.toNat r.nonce.toNat)).2.2 = 0 then ((macS a d.tag (bindM leaf r.gate.toNat r.nonce.toNat)).1, ⟨d.ticket, d.conds, (macS a d.tag (bindM leaf r.gate.toNat r.nonce.toNat)).2.1⟩, 0) else (alg0, bo0, (macS a d.tag (bindM leaf r.gate.toNat r.nonce.toNat)).2.2)
def mbAV (r : Alg × Bo × Nat) : AV := .tup [algAV r.1, boAV r.2.1, .lit (.int .i64 (r.2.2 : Nat))]
theorem bindS_in {a : Alg} {m : Nat} (h : AlgIn a m) (d : Di) (leaf : Tg) (r : Rq) : AlgIn (bindS a d leaf r).1 (m + 1) := by
 unfold bindS
 split
 ·exact alg0_in _
 ·split
  ·exact macS_in h _ _
  ·exact alg0_in _
theorem refBind_spec (a : Alg) (m : Nat) (ha : AlgIn a m) (hm : m ≤ 900000) (d : Di) (leaf : Tg) (r : Rq) (k : Nat) :
  ACall Tryz.prog 27 [algAV a, diAV d, tagAV leaf, rqAV r] k [] (mbAV (bindS a d leaf r)) [] := by
 have c1 := refRqOk_spec r
 unfold bindS
 cases hr : rqB r with
 | false =>
  rw [if_pos rfl]
  rw [hr] at c1
  unfold mbAV
  simp only [alg0_eq, bo0_eq]
  clear ha
  refine Bd Tryz.func27 Tryz.ntmps27 fun σ N hp hpn hk hkn hfree => ?_
  have hcs := And.intro c1 True.intro
  clear c1
  refine Wk ?_
  exact WD
 | true =>
  rw [if_neg (by simp)]
  rw [hr] at c1
  obtain ⟨⟨h1, h2⟩, h3, h4⟩ := rqB_iff.1 hr
  obtain ⟨x, y⟩ := r
  simp only at h1 h2 h3 h4 ⊢
  obtain ⟨x, rfl⟩ := Int.eq_ofNat_of_zero_le h1
  obtain ⟨y, rfl⟩ := Int.eq_ofNat_of_zero_le (show 0 ≤ y by omega)
  simp only [Int.toNat_natCast]
  have c2 := refBindM_spec leaf x y (by omega) (by omega)
  have c3 := Mac_spec a d.tag (bindM leaf x y) (by have := ha.ml; omega) ha.mm
  generalize macS a d.tag (bindM leaf x y) = X at *
  obtain ⟨a1, t1, e1'⟩ := X
  generalize bindM leaf x y = M at *
  obtain ⟨ti, L, tg⟩ := d
  unfold mkAV at c3
  unfold rqAV at *
  simp only at c1 c3 ⊢
  clear ha hr h1 h2 h3 h4
  have hdA : diAV ⟨ti, L, tg⟩ = .agg [.slice none (ti.map byteAV), .slice none (L.map prAV), tagAV tg] := rfl
  rw [hdA]
  clear hdA
  by_cases he : e1' = 0
  ·subst he
   rw [if_pos rfl]
   unfold mbAV boAV
   simp only
   refine Bd Tryz.func27 Tryz.ntmps27 fun σ N hp hpn hk hkn hfree => ?_
   have hcs := And.intro c1 (And.intro c2 (And.intro c3 True.intro))
   clear c1 c2 c3
   refine Wk ?_
   exact WD
  ·rw [if_neg he]
   have h1i : ((e1' : Int) != 0) = true := by simp; omega
   unfold mbAV
   simp only [alg0_eq, bo0_eq]
   refine Bd Tryz.func27 Tryz.ntmps27 fun σ N hp hpn hk hkn hfree => ?_
   have hcs := And.intro c1 (And.intro c2 (And.intro c3 True.intro))
   clear c1 c2 c3
   refine Wk ?_
   exact WD
end

def teB (t : Te) : Bool := decide (0 ≤ t.least) && decide (t.least ≤ t.most) && decide (t.most ≤ 150)
theorem teB_iff {t : Te} : teB t = true ↔ 0 ≤ t.least ∧ t.least ≤ t.most ∧ t.most ≤ 150 := by
 unfold teB; simp [Bool.and_eq_true, and_assoc]
theorem refTerms_spec (t : Te) (k : Nat) : ACall Tryz.prog 121 [teAV t] k [] (.lit (.bool (teB t))) [] := by
 obtain ⟨x, y⟩ := t
 unfold teAV
 by_cases h1 : 0 ≤ x
 ·by_cases h2 : x ≤ y
  ·by_cases h3 : y ≤ 150
   ·have hr : teB ⟨x, y⟩ = true := by simp [teB, *]
    rw [hr]
    refine Bd Tryz.func121 Tryz.ntmps121 fun σ N hp hpn hk hkn hfree => ?_
    exact W0
   ·have hr : teB ⟨x, y⟩ = false := by simp [teB, *]
    rw [hr]
    refine Bd Tryz.func121 Tryz.ntmps121 fun σ N hp hpn hk hkn hfree => ?_
    exact W0
  ·have hr : teB ⟨x, y⟩ = false := by simp [teB, *]
   rw [hr]
   refine Bd Tryz.func121 Tryz.ntmps121 fun σ N hp hpn hk hkn hfree => ?_
   exact W0
 ·have hr : teB ⟨x, y⟩ = false := by simp [teB, *]
  rw [hr]
  refine Bd Tryz.func121 Tryz.ntmps121 fun σ N hp hpn hk hkn hfree => ?_
  exact W0
def readT (b : List UInt8) : Tg × Te × Nat :=
 if (tagR b 0).2.2 ≠ 0 then (zeroTag, te0, 5) else
 if (numR b 32).2.2 ≠ 0 then (zeroTag, te0, 5) else if (numR b (numR b 32).2.1).2.2 ≠ 0 then (zeroTag, te0, 5) else
 if (numR b (numR b 32).2.1).2.1 ≠ b.length ∨ teB ⟨(numR b 32).1, (numR b (numR b 32).2.1).1⟩ = false then (zeroTag, te0, 5) else
 ((tagR b 0).1, ⟨(numR b 32).1, (numR b (numR b 32).2.1).1⟩, 0)
def moAV (r : Tg × Te × Nat) : AV := .tup [tagAV r.1, teAV r.2.1, .lit (.int .i64 (r.2.2 : Nat))]
section
variable [W : W32]
def openT (a : Alg) (c : Co) (t : List UInt8) : Tg × Te × Nat := if (openS a c.key t).2 ≠ 0 then (zeroTag, te0, (openS a c.key t).2) else readT (openS a c.key t).1
set_option maxHeartbeats 1000000 in
theorem refOpenT_spec (a : Alg) (m : Nat) (ha : AlgIn a m) (hm : m ≤ 900000) (c : Co) (t : List UInt8) (ht : t.length ≤ 100000) (k : Nat) :
  ACall Tryz.prog 128 [algAV a, concAV c, .slice none (t.map byteAV)] k [] (moAV (openT a c t)) [] := by
 obtain ⟨cpa, cke, cps⟩ := c
 have c1 := refOpen_spec a m ha hm cke t ht
 have hbl := openS_len a m ha cke t ht
 unfold openT
 simp only
 unfold soAV at c1
 generalize openS a cke t = X at *
 obtain ⟨b, e⟩ := X
 simp only at c1 hbl ⊢
 clear ha
 unfold moAV
 by_cases he : e = 0
 ·subst he
  rw [if_neg (by simp)]
  unfold readT
  have t1 := fun d => RTag_spec b 0 (by omega) (by omega) d
  by_cases hs : (tagR b 0).2.2 = 0
  ·rw [if_neg (by simpa using hs)]
   have hs2 : (tagR b 0).2.1 = 32 := tagR_used hs
   have hs3 : 32 ≤ b.length := tagR_len hs
   generalize tagR b 0 = T at *
   obtain ⟨kt, u0, e0⟩ := T
   simp only at hs hs2 t1 ⊢
   subst hs
   subst hs2
   have n1 := fun d => RNum_spec b 32 hs3 (by omega) d
   have l1 := numR_le (b := b) hs3
   by_cases h1 : (numR b 32).2.2 = 0
   ·rw [if_neg (by simpa using h1)]
    generalize numR b 32 = Y at *
    obtain ⟨v1, u1, e1'⟩ := Y
    simp only at h1 n1 l1 ⊢
    subst h1
    have n2 := fun d => RNum_spec b u1 l1 (by omega) d
    by_cases h2 : (numR b u1).2.2 = 0
    ·rw [if_neg (by simpa using h2)]
     generalize numR b u1 = Z at *
     obtain ⟨v2, u2, e2'⟩ := Z
     simp only at h2 n2 ⊢
     subst h2
     by_cases h3 : u2 = b.length
     ·subst h3
      have n3 := refTerms_spec ⟨(v1 : Nat), (v2 : Nat)⟩
      cases h4 : teB ⟨(v1 : Nat), (v2 : Nat)⟩ with
      | false =>
       rw [if_pos (.inr rfl)]
       rw [h4] at n3
       unfold teAV at *
       simp only [te0] at *
       simp only [RdBox] at *
       refine Bd Tryz.func128 Tryz.ntmps128 fun σ N hp hpn hk hkn hfree => ?_
       have hcs := And.intro c1 (And.intro (t1 (N + 17 + 2)) (And.intro (n1 (N + 17 + 2)) (And.intro (n2 (N + 17 + 2)) (And.intro n3 True.intro))))
       clear c1 t1 n1 n2 n3
       refine Wk ?_
       exact WD
      | true =>
       rw [if_neg (by simp)]
       rw [h4] at n3
       unfold teAV at *
       simp only at *
       simp only [RdBox] at *
       refine Bd Tryz.func128 Tryz.ntmps128 fun σ N hp hpn hk hkn hfree => ?_
       have hcs := And.intro c1 (And.intro (t1 (N + 17 + 2)) (And.intro (n1 (N + 17 + 2)) (And.intro (n2 (N + 17 + 2)) (And.intro n3 True.intro))))
       clear c1 t1 n1 n2 n3
       refine Wk ?_
       exact WD
     ·rw [if_pos (.inl h3)]
      have h3i : ((u2 : Int) != (b.length : Int)) = true := by simp; omega
      unfold teAV
      simp only [te0]
      simp only [RdBox] at *
      refine Bd Tryz.func128 Tryz.ntmps128 fun σ N hp hpn hk hkn hfree => ?_
      have hcs := And.intro c1 (And.intro (t1 (N + 17 + 2)) (And.intro (n1 (N + 17 + 2)) (And.intro (n2 (N + 17 + 2)) True.intro)))
      clear c1 t1 n1 n2
      refine Wk ?_
      exact WD
    ·rw [if_pos (by simpa using h2)]
     generalize numR b u1 = Z at *
     obtain ⟨v2, u2, e2'⟩ := Z
     simp only at h2 n2 ⊢
     have h2i : ((e2' : Int) != 0) = true := by simp; omega
     unfold teAV
     simp only [te0]
     simp only [RdBox] at *
     refine Bd Tryz.func128 Tryz.ntmps128 fun σ N hp hpn hk hkn hfree => ?_
     have hcs := And.intro c1 (And.intro (t1 (N + 17 + 2)) (And.intro (n1 (N + 17 + 2)) (And.intro (n2 (N + 17 + 2)) True.intro)))
     clear c1 t1 n1 n2
     refine Wk ?_
     exact WD
   ·rw [if_pos (by simpa using h1)]
    generalize numR b 32 = Y at *
    obtain ⟨v1, u1, e1'⟩ := Y
    simp only at h1 n1 l1 ⊢
    have h1i : ((e1' : Int) != 0) = true := by simp; omega
    have n2 := fun d => RNum_off b u1 e1' h1 d
    unfold teAV
    simp only [te0]
    simp only [RdBox] at *
    refine Bd Tryz.func128 Tryz.ntmps128 fun σ N hp hpn hk hkn hfree => ?_
    have hcs := And.intro c1 (And.intro (t1 (N + 17 + 2)) (And.intro (n1 (N + 17 + 2)) (And.intro (n2 (N + 17 + 2)) True.intro)))
    clear c1 t1 n1 n2
    refine Wk ?_
    exact WD
  ·rw [if_pos (by simpa using hs)]
   generalize tagR b 0 = T at *
   obtain ⟨kt, u0, e0⟩ := T
   simp only at hs t1 ⊢
   have h1i : ((e0 : Int) != 0) = true := by simp; omega
   have n1 := fun d => RNum_off b u0 e0 hs d
   have n2 := fun d => RNum_off b u0 e0 hs d
   unfold teAV
   simp only [te0]
   simp only [RdBox] at *
   refine Bd Tryz.func128 Tryz.ntmps128 fun σ N hp hpn hk hkn hfree => ?_
   have hcs := And.intro c1 (And.intro (t1 (N + 17 + 2)) (And.intro (n1 (N + 17 + 2)) (And.intro (n2 (N + 17 + 2)) True.intro)))
   clear c1 t1 n1 n2
   refine Wk ?_
   exact WD
 ·rw [if_pos he]
  have h1i : ((e : Int) != 0) = true := by simp; omega
  simp only [te0_eq]
  refine Bd Tryz.func128 Tryz.ntmps128 fun σ N hp hpn hk hkn hfree => ?_
  have hcs := And.intro c1 True.intro
  clear c1
  refine Wk ?_
  exact WD
def plainT (k : Tg) (t : Te) : List UInt8 := k.1 ++ (leb t.least.toNat ++ leb t.most.toNat)
omit W in
theorem plainT_len (k : Tg) (t : Te) (h : teB t = true) : (plainT k t).length ≤ 50 := by
 obtain ⟨h1, h2, h3⟩ := teB_iff.1 h
 have a := leb_len t.least.toNat 7 (by omega)
 have b := leb_len t.most.toNat 7 (by omega)
 simp [plainT, k.2]; omega
def blankS (a : Alg) (c : Co) (t : Te) : Alg × Bl × Nat :=
 if teB t = false ∨ c.party < 0 ∨ 7 < c.party then (alg0, bl0, 1) else
 if (keyS a).2.2 = 0 then
  if (sealS (keyS a).1 c.key (keyS a).1.fresh (plainT (keyS a).2.1 t)).2.2 = 0 then ((sealS (keyS a).1 c.key (keyS a).1.fresh (plainT (keyS a).2.1 t)).1, ⟨c.party, (keyS a).2.1, (sealS (keyS a).1 c.key (keyS a).1.fresh (plainT (keyS a).2.1 t)).2.1⟩, 0)
  else (alg0, bl0, (sealS (keyS a).1 c.key (keyS a).1.fresh (plainT (keyS a).2.1 t)).2.2)
 else (alg0, bl0, (keyS a).2.2)
def mlAV (r : Alg × Bl × Nat) : AV := .tup [algAV r.1, blAV r.2.1, .lit (.int .i64 (r.2.2 : Nat))]
theorem blankS_in {a : Alg} {m : Nat} (h : AlgIn a m) (c : Co) (t : Te) : AlgIn (blankS a c t).1 (m + 2) := by
 unfold blankS
 split
 ·exact alg0_in _
 ·split
  ·split
   ·exact sealS_in (keyS_in h) _ _ _
   ·exact alg0_in _
  ·exact alg0_in _
set_option maxHeartbeats 1000000 in
theorem refBlank_spec (a : Alg) (m : Nat) (ha : AlgIn a m) (hm : m ≤ 900000) (c : Co) (t : Te) (k : Nat) :
  ACall Tryz.prog 52 [algAV a, concAV c, teAV t] k [] (mlAV (blankS a c t)) [] := by
 have c1 := refTerms_spec t
 have c2 := Key_spec a ha.f0
 have hin := keyS_in ha
 have hpl := plainT_len (keyS a).2.1 t
 unfold blankS
 unfold mlAV
 generalize hX : keyS a = X at *
 obtain ⟨a1, kt, e1'⟩ := X
 unfold mkAV at c2
 simp only at c2 hin hpl ⊢
 clear ha hX
 cases ht : teB t with
 | false =>
  rw [if_pos (.inl rfl)]
  rw [ht] at c1
  simp only [alg0_eq, bl0_eq]
  clear c2
  refine Bd Tryz.func52 Tryz.ntmps52 fun σ N hp hpn hk hkn hfree => ?_
  have hcs := And.intro c1 True.intro
  clear c1
  refine Wk ?_
  exact WD
 | true =>
  rw [ht] at c1
  have hpl := hpl ht
  have ht0 := teB_iff.1 ht
  obtain ⟨pa, ck, ps⟩ := c
  simp only
  by_cases hp1 : pa < 0
  ·rw [if_pos (.inr (.inl hp1))]
   simp only [alg0_eq, bl0_eq]
   clear c2
   refine Bd Tryz.func52 Tryz.ntmps52 fun σ N hp hpn hk hkn hfree => ?_
   have hcs := And.intro c1 True.intro
   clear c1
   refine Wk ?_
   exact WD
  ·by_cases hp2 : 7 < pa
   ·rw [if_pos (.inr (.inr hp2))]
    simp only [alg0_eq, bl0_eq]
    clear c2
    refine Bd Tryz.func52 Tryz.ntmps52 fun σ N hp hpn hk hkn hfree => ?_
    have hcs := And.intro c1 True.intro
    clear c1
    refine Wk ?_
    exact WD
   ·rw [if_neg (by rintro (h | h | h); · cases h
                   ·exact hp1 h
                   ·exact hp2 h)]
    by_cases h1 : e1' = 0
    ·subst h1
     rw [if_pos rfl]
     have c5 := Seal_spec a1 ck a1.fresh (plainT kt t) (by have := hin.bl; omega) hin.bm
     obtain ⟨x, y⟩ := t
     simp only at ht0
     obtain ⟨q1, q2, q3⟩ := ht0
     obtain ⟨x, rfl⟩ := Int.eq_ofNat_of_zero_le q1
     obtain ⟨y, rfl⟩ := Int.eq_ofNat_of_zero_le (show 0 ≤ y by omega)
     have c3 := fun k => Number_spec_f x k (by omega)
     have c4 := fun k => Number_spec_f y k (by omega)
     have hl1 := leb_len x 7 (by omega)
     have hl2 := leb_len y 7 (by omega)
     unfold skAV at c5
     obtain ⟨pl, hplE⟩ : ∃ pl, plainT kt ⟨(x : Nat), (y : Nat)⟩ = pl := ⟨_, rfl⟩
     have hplm : (kt.1.map byteAV ++ (leb x).map byteAV) ++ (leb y).map byteAV = pl.map byteAV := by
      rw [← hplE]; simp [plainT]
     have hpll : pl.length = 32 + ((leb x).length + (leb y).length) := by rw [← hplE]; simp [plainT, kt.2]
     rw [hplE] at c5 ⊢
     generalize sealS a1 ck a1.fresh pl = Z at *
     obtain ⟨a2, b2, e2'⟩ := Z
     simp only at c5 ⊢
     generalize leb x = lx at *
     generalize leb y = ly at *
     have hs1 := tagAV_sz kt
     have hs2 := tagAV_cell kt
     obtain ⟨K, hK⟩ := kt
     have hkA : tagAV ⟨K, hK⟩ = .agg (K.map byteAV) := rfl
     simp only [hkA] at hs1 hs2 c2 hplm ⊢
     clear hplE hin hpl ht
     have hs3 : AV.celll (K.map byteAV) = true := celll_bytes K
     have htk : (K.map byteAV).take 32 = K.map byteAV := List.take_of_length_le (by rw [List.length_map]; omega)
     unfold teAV at *
     simp only at c1
     have haA : algAV a1 = .agg [.lit (.bool a1.free), tagAV a1.seed, .lit (.int .i64 a1.fresh), .slice none (a1.macs.map macAV), .slice none (a1.boxes.map sealAV)] := rfl
     by_cases h2 : e2' = 0
     ·subst h2
      rw [if_pos rfl]
      unfold blAV
      simp only [hkA]
      clear hkA
      refine Bd Tryz.func52 Tryz.ntmps52 fun σ N hp hpn hk hkn hfree => ?_
      have hcs := And.intro c1 (And.intro c2 (And.intro c3 (And.intro c4 (And.intro c5 True.intro))))
      clear c1 c2 c3 c4 c5
      refine Wk ?_
      exact WD
     ·rw [if_neg h2]
      have h2i : ((e2' : Int) != 0) = true := by simp; omega
      simp only [alg0_eq, bl0_eq]
      clear hkA
      refine Bd Tryz.func52 Tryz.ntmps52 fun σ N hp hpn hk hkn hfree => ?_
      have hcs := And.intro c1 (And.intro c2 (And.intro c3 (And.intro c4 (And.intro c5 True.intro))))
      clear c1 c2 c3 c4 c5
      refine Wk ?_
      exact WD
    ·rw [if_neg h1]
     have h1i : ((e1' : Int) != 0) = true := by simp; omega
     simp only [alg0_eq, bl0_eq]
     refine Bd Tryz.func52 Tryz.ntmps52 fun σ N hp hpn hk hkn hfree => ?_
     have hcs := And.intro c1 (And.intro c2 True.intro)
     clear c1 c2
     refine Wk ?_
     exact WD
def addS (a : Alg) (p : Pa) (b : Bl) : Alg × Pa × Nat :=
 if (macS a p.tag (sealM b.ticket)).2.2 = 0 then
  if (sealS (macS a p.tag (sealM b.ticket)).1 (macS a p.tag (sealM b.ticket)).2.1 0 b.key.1).2.2 = 0 then
   attS (sealS (macS a p.tag (sealM b.ticket)).1 (macS a p.tag (sealM b.ticket)).2.1 0 b.key.1).1 p ⟨true, zeroPr, b.party, b.ticket, (sealS (macS a p.tag (sealM b.ticket)).1 (macS a p.tag (sealM b.ticket)).2.1 0 b.key.1).2.1⟩
  else (alg0, pa0, (sealS (macS a p.tag (sealM b.ticket)).1 (macS a p.tag (sealM b.ticket)).2.1 0 b.key.1).2.2)
 else (alg0, pa0, (macS a p.tag (sealM b.ticket)).2.2)
theorem addS_in {a : Alg} {m : Nat} (h : AlgIn a m) (p : Pa) (b : Bl) : AlgIn (addS a p b).1 (m + 4) := by
 unfold addS
 split
 ·split
  ·exact attS_in (sealS_in (macS_in h _ _) _ _ _) _ _
  ·exact alg0_in _
 ·exact alg0_in _
set_option maxHeartbeats 1000000 in
theorem refAdd_spec (a : Alg) (m : Nat) (ha : AlgIn a m) (hm : m ≤ 800000) (p : Pa) (hpl : p.cavs.length ≤ 10000) (b : Bl) (hb : b.ticket.length ≤ 100000) (k : Nat) :
  ACall Tryz.prog 62 [algAV a, paAV p, blAV b] k [] (mpAV (addS a p b)) [] := by
 have c1 := refSealM_spec b.ticket (by omega)
 have c2 := Mac_spec a p.tag (sealM b.ticket) (by have := ha.ml; omega) ha.mm
 have hin := macS_in ha p.tag (sealM b.ticket)
 unfold addS
 generalize macS a p.tag (sealM b.ticket) = X at *
 obtain ⟨a1, t1, e1'⟩ := X
 unfold mkAV at c2
 simp only at c2 hin ⊢
 have c3 := Seal_spec a1 t1 0 b.key.1 (by have := hin.bl; omega) hin.bm
 have hin2 := sealS_in hin t1 0 b.key.1
 generalize sealS a1 t1 0 b.key.1 = Y at *
 obtain ⟨a2, x2, e2'⟩ := Y
 unfold skAV at c3
 simp only at c3 hin2 ⊢
 have c4 := refAtt_spec a2 (m + 1 + 1) hin2 (by omega) p hpl ⟨true, zeroPr, b.party, b.ticket, x2⟩ zeroPr_ok
 generalize attS a2 p ⟨true, zeroPr, b.party, b.ticket, x2⟩ = Z at *
 obtain ⟨a3, p3, e3'⟩ := Z
 generalize sealM b.ticket = M at *
 clear hin hin2 ha
 obtain ⟨ep, se, L, tg⟩ := p
 obtain ⟨bp, bk, bt⟩ := b
 simp only at c1 c2 c3 c4 hb
 have hs1 := tagAV_sz bk
 have hs2 := tagAV_cell bk
 obtain ⟨K, hK⟩ := bk
 have hkA : tagAV ⟨K, hK⟩ = .agg (K.map byteAV) := rfl
 have hs3 : AV.celll (K.map byteAV) = true := celll_bytes K
 have htk : (K.map byteAV).take 32 = K.map byteAV := List.take_of_length_le (by rw [List.length_map]; omega)
 have hzp : prAV zeroPr = .agg [.lit (.int .i64 0), .lit (.int .u64 0), .lit (.int .i64 0), .lit (.int .i64 0), .lit (.string ⟨#[]⟩), .lit (.int .i64 0)] := rfl
 have hpA : paAV ⟨ep, se, L, tg⟩ = .agg [.lit (.int .i64 ep), .lit (.int .i64 se), .slice none (L.map caAV), tagAV tg] := rfl
 unfold mpAV caAV blAV at *
 simp only [hkA, hzp] at *
 clear hkA hzp
 by_cases h1 : e1' = 0
 ·subst h1
  rw [if_pos rfl]
  by_cases h2 : e2' = 0
  ·subst h2
   rw [if_pos rfl]
   simp only
   refine Bd Tryz.func62 Tryz.ntmps62 fun σ N hp hpn hk hkn hfree => ?_
   have hcs := And.intro c1 (And.intro c2 (And.intro c3 (And.intro c4 True.intro)))
   clear c1 c2 c3 c4
   refine Wk ?_
   exact WD
  ·rw [if_neg h2]
   have h2i : ((e2' : Int) != 0) = true := by simp; omega
   simp only [alg0_eq, pa0_eq]
   refine Bd Tryz.func62 Tryz.ntmps62 fun σ N hp hpn hk hkn hfree => ?_
   have hcs := And.intro c1 (And.intro c2 (And.intro c3 True.intro))
   clear c1 c2 c3 c4
   refine Wk ?_
   exact WD
 ·rw [if_neg h1]
  have h1i : ((e1' : Int) != 0) = true := by simp; omega
  simp only [alg0_eq, pa0_eq]
  refine Bd Tryz.func62 Tryz.ntmps62 fun σ N hp hpn hk hkn hfree => ?_
  have hcs := And.intro c1 (And.intro c2 True.intro)
  clear c1 c2 c3 c4
  refine Wk ?_
  exact WD
end
end Go.Proofs.YtdmjpolnbmoehaaGreatDoor

namespace Go.Proofs.YtdmjpolnbmoehaaGreatDoor
open Go.Ab
attribute [local irreducible] Go.Ab.tyAV Go.Ab.aw Go.Ab.aops Go.Ab.kReg Go.Ab.aThen Go.Ab.aBlk Go.Ab.acond Go.Ab.aguard Go.Ab.astep Go.Ab.AStepX Go.Ab.aRet
theorem minutes_spec (n : Int) (k : Nat) : ACall Tryz.prog 123 [.lit (.int .i64 n)] k [] (.lit (.bool (decide (0 ≤ n) && decide (n ≤ 67108864)))) [] := by
 by_cases h : 0 ≤ n
 ·rw [decide_eq_true h]
  refine Bd Tryz.func123 Tryz.ntmps123 fun σ N hp hpn hk hkn hfree => ?_
  exact W0
 ·rw [decide_eq_false h]
  refine Bd Tryz.func123 Tryz.ntmps123 fun σ N hp hpn hk hkn hfree => ?_
  exact W0
def ageBad (b m : Int) : Prop := m < 0 ∨ 67108864 < m ∨ b < -67108864 ∨ 67108864 < b ∨ m < b
instance (b m : Int) : Decidable (ageBad b m) := by unfold ageBad; infer_instance
def ageS (b m : Int) : Int := if ageBad b m then 0 else if (m - b) / 525600 < 150 then (m - b) / 525600 else 150
theorem age_B (n : List UInt8) (b m w x : Int) (h : (decide (0 ≤ m) && decide (m ≤ 67108864)) = true) (hw : IntKind.i64.wrap (-b) = w) (hx : (if b < w then w else b) = x) (h2 : (decide (0 ≤ x) && decide (x ≤ 67108864)) = false) (k : Nat) :
  ACall Tryz.prog 70 [persAV ⟨n, b⟩, .lit (.int .i64 m)] k [] (.lit (.int .i64 0)) [] := by
 have c1 := minutes_spec m
 rw [h] at c1
 have c2 := minutes_spec x
 rw [h2] at c2
 clear h h2
 refine Bd Tryz.func70 Tryz.ntmps70 fun σ N hp hpn hk hkn hfree => ?_
 have hcs := And.intro c1 (And.intro c2 True.intro)
 exact W0
theorem refAge_A (n : List UInt8) (b m : Int) (h1 : m < 0) (k : Nat) :
  ACall Tryz.prog 130 [persAV ⟨n, b⟩, .lit (.int .i64 m)] k [] (.lit (.int .i64 0)) [] := by
 refine Bd Tryz.func130 Tryz.ntmps130 fun σ N hp hpn hk hkn hfree => ?_
 exact W0
theorem refAge_B (n : List UInt8) (b m : Int) (h1 : ¬ m < 0) (h2 : 67108864 < m) (k : Nat) :
  ACall Tryz.prog 130 [persAV ⟨n, b⟩, .lit (.int .i64 m)] k [] (.lit (.int .i64 0)) [] := by
 refine Bd Tryz.func130 Tryz.ntmps130 fun σ N hp hpn hk hkn hfree => ?_
 exact W0
theorem refAge_C (n : List UInt8) (b m : Int) (h1 : ¬ m < 0) (h2 : ¬ 67108864 < m) (h3 : b < -67108864) (k : Nat) :
  ACall Tryz.prog 130 [persAV ⟨n, b⟩, .lit (.int .i64 m)] k [] (.lit (.int .i64 0)) [] := by
 refine Bd Tryz.func130 Tryz.ntmps130 fun σ N hp hpn hk hkn hfree => ?_
 exact W0
theorem refAge_D (n : List UInt8) (b m : Int) (h1 : ¬ m < 0) (h2 : ¬ 67108864 < m) (h3 : ¬ b < -67108864) (h4 : 67108864 < b) (k : Nat) :
  ACall Tryz.prog 130 [persAV ⟨n, b⟩, .lit (.int .i64 m)] k [] (.lit (.int .i64 0)) [] := by
 refine Bd Tryz.func130 Tryz.ntmps130 fun σ N hp hpn hk hkn hfree => ?_
 exact W0
theorem refAge_E (n : List UInt8) (b m : Int) (h1 : ¬ m < 0) (h2 : ¬ 67108864 < m) (h3 : ¬ b < -67108864) (h4 : ¬ 67108864 < b) (h5 : m < b) (k : Nat) :
  ACall Tryz.prog 130 [persAV ⟨n, b⟩, .lit (.int .i64 m)] k [] (.lit (.int .i64 0)) [] := by
 refine Bd Tryz.func130 Tryz.ntmps130 fun σ N hp hpn hk hkn hfree => ?_
 exact W0
theorem refAge_F (n : List UInt8) (b m r : Int) (h1 : ¬ m < 0) (h2 : ¬ 67108864 < m) (h3 : ¬ b < -67108864) (h4 : ¬ 67108864 < b) (h5 : ¬ m < b)
  (hr : (if (150 : Int) < (m - b).tdiv 525600 then (150 : Int) else (m - b).tdiv 525600) = r) (k : Nat) :
  ACall Tryz.prog 130 [persAV ⟨n, b⟩, .lit (.int .i64 m)] k [] (.lit (.int .i64 r)) [] := by
 have hwr : IntKind.i64.wrap (m - b) = m - b := wrap_i64 (by omega) (by omega)
 have hq : (m - b).tdiv 525600 = (m - b) / 525600 := Int.tdiv_eq_ediv_of_nonneg (by omega)
 rw [hq] at hr
 refine Bd Tryz.func130 Tryz.ntmps130 fun σ N hp hpn hk hkn hfree => ?_
 exact W0
theorem refAge_spec (n : List UInt8) (b m : Int) (k : Nat) :
  ACall Tryz.prog 130 [persAV ⟨n, b⟩, .lit (.int .i64 m)] k [] (.lit (.int .i64 (ageS b m))) [] := by
 unfold ageS
 by_cases h : ageBad b m
 ·rw [if_pos h]
  by_cases h1 : m < 0
  ·exact refAge_A n b m h1 k
  ·by_cases h2 : 67108864 < m
   ·exact refAge_B n b m h1 h2 k
   ·by_cases h3 : b < -67108864
    ·exact refAge_C n b m h1 h2 h3 k
    ·by_cases h4 : 67108864 < b
     ·exact refAge_D n b m h1 h2 h3 h4 k
     ·unfold ageBad at h
      exact refAge_E n b m h1 h2 h3 h4 (by omega) k
 ·rw [if_neg h]
  unfold ageBad at h
  refine refAge_F n b m _ (by omega) (by omega) (by omega) (by omega) (by omega) ?_ k
  rw [Int.tdiv_eq_ediv_of_nonneg (by omega)]
  split <;> split <;> omega
def findP (l : List Pe) (nm : List UInt8) : Pe × Bool := match l.find? (fun p => decide (p.name = nm)) with
 | some p => (p, true)
 | none => (⟨[], 0⟩, false)
theorem findP_at {l : List Pe} {nm : List UInt8} {u : Nat} {p : Pe} (h : u < l.length) (hx : l[u] = p) (hm : p.name = nm) (hno : ∀ y ∈ l.take u, ¬ y.name = nm) : findP l nm = (p, true) := by
 have : l.find? (fun p => decide (p.name = nm)) = some p := by
  rw [List.find?_eq_some_iff_getElem]
  refine ⟨by simp [hm], u, h, hx, fun j hj => ?_⟩
  have := hno l[j] (by rw [List.mem_iff_getElem]; exact ⟨j, by rw [List.length_take]; omega, by rw [List.getElem_take]⟩)
  simp [this]
 simp only [findP, this]
theorem findP_none {l : List Pe} {nm : List UInt8} (hno : ∀ y ∈ l, ¬ y.name = nm) : findP l nm = (⟨[], 0⟩, false) := by
 have : l.find? (fun p => decide (p.name = nm)) = none := by
  rw [List.find?_eq_none]; intro x hx; simp [hno x hx]
 simp only [findP, this]
theorem pno_succ {l : List Pe} {nm : List UInt8} {u : Nat} {p : Pe} (h : u < l.length) (hx : l[u] = p) (hm : ¬ p.name = nm) (hno : ∀ y ∈ l.take u, ¬ y.name = nm) : ∀ y ∈ l.take (u + 1), ¬ y.name = nm := by
 intro y hy
 rw [List.take_add_one, List.getElem?_eq_getElem h, hx] at hy
 simp only [Option.toList, List.mem_append, List.mem_singleton] at hy
 rcases hy with hy | rfl
 ·exact hno y hy
 ·exact hm
theorem refFind_spec (p : Int) (t : Tg) (l : List Pe) (nm : List UInt8) (hl : l.length ≤ 1000000) (k : Nat) :
  ACall Tryz.prog 129 [concAV ⟨p, t, l⟩, strAV nm] k [] (.tup [persAV (findP l nm).1, .lit (.bool (findP l nm).2)]) [] := by
 have hnmv : strAV nm = .lit (.string ⟨nm.toArray⟩) := rfl
 refine Bd Tryz.func129 Tryz.ntmps129 fun σ N hp hpn hk hkn hfree => ?_
 refine Wk ?_
 refine go_loop (aloop mixed (by kernel_rfl) (fun c => ∃ (u : Nat), c.s 1 = strAV nm ∧ c.s 2 = .ptr N [] 0 ∧ c.σ N = .box 44 (concAV ⟨p, t, l⟩) ∧ c.s 4 = .ptr (N + 1) [] 0 ∧ c.σ (N + 1) = .box 130 (persAV ⟨[], 0⟩) ∧ c.s 6 = .lit (.int .i64 u) ∧ u ≤ l.length ∧ N + 1 < c.n ∧ (∀ id, id < N → c.σ id = σ id) ∧ ∀ y ∈ l.take u, ¬ y.name = nm)
  (fun c => match c.s 6 with | .lit (.int _ m) => l.length - m.toNat | _ => 0) ⟨0, by simp (disch := omega) [go_sem, *, -List.reduceReplicate], by simp (disch := omega) [go_sem, *, -List.reduceReplicate], by simp (disch := omega) [go_sem, *, -List.reduceReplicate], by simp (disch := omega) [go_sem, *, -List.reduceReplicate], by simp (disch := omega) [go_sem, *, -List.reduceReplicate]; try rfl, by simp (disch := omega) [go_sem, *, -List.reduceReplicate], by omega, by simp only; omega, (fun id hid => by simp (disch := omega) only [upd_ne]; try exact hlow id hid), by simp⟩ ?_)
 rintro ⟨s, σ', n'⟩ ⟨u, h1, h2, hN, h4, hN1, h6, hu, hn', hlow, hno⟩
 simp only at h1 h2 hN h4 hN1 h6 hn' hlow
 by_cases hul : u = l.length
 ·rw [findP_none (by rw [hul, List.take_length] at hno; exact hno)]
  clear hno
  exact W0
 ·have hu2 : u < l.length := by omega
  obtain ⟨x, hx⟩ : ∃ x, l[u] = x := ⟨_, rfl⟩
  by_cases hm : x.name = nm
  ·rw [findP_at hu2 hx hm hno]
   clear hno
   obtain ⟨xn, xb⟩ := x
   simp only at hm
   subst hm
   exact W0
  ·have hno2 := pno_succ hu2 hx hm hno
   clear hno
   obtain ⟨xn, xb⟩ := x
   simp only at hm
   refine Wk ?_
   refine ⟨⟨u + 1, by simp (disch := omega) [go_sem, *, -List.reduceReplicate], by simp (disch := omega) [go_sem, *, -List.reduceReplicate], by simp (disch := omega) [go_sem, *, -List.reduceReplicate], by simp (disch := omega) [go_sem, *, -List.reduceReplicate], by simp (disch := omega) [go_sem, *, -List.reduceReplicate], by simp (disch := omega) [go_sem, *, -List.reduceReplicate], by omega, by simp only; omega, (fun id hid => by simp (disch := omega) only; try exact hlow id hid), hno2⟩, ?_⟩
   simp (disch := omega) [go_sem, *, -List.reduceReplicate]
   omega
end Go.Proofs.YtdmjpolnbmoehaaGreatDoor

namespace Go.Proofs.YtdmjpolnbmoehaaGreatDoor
open Go.Ab
attribute [local irreducible] Go.Ab.tyAV Go.Ab.aw Go.Ab.aops Go.Ab.kReg Go.Ab.aThen Go.Ab.aBlk Go.Ab.acond Go.Ab.aguard Go.Ab.astep Go.Ab.AStepX Go.Ab.aRet
attribute [local irreducible] shaG
section
variable [W : W32]
def holdP (h : List UInt8) : Pr := ⟨6, 0, 0, 0, h, 0⟩
def grantS (a : Alg) (c : Co) (t : List UInt8) (holder : List UInt8) (minute : Int) : Alg × Di × Nat :=
 if nameB holder = false then (alg0, di0, 7) else if minute < 0 ∨ 67108864 < minute then (alg0, di0, 1) else
 if (openT a c t).2.2 ≠ 0 then (alg0, di0, (openT a c t).2.2) else if (findP c.ps holder).2 = false then (alg0, di0, 12) else
 if ageS (findP c.ps holder).1.born minute < (openT a c t).2.1.least ∨ (openT a c t).2.1.most < ageS (findP c.ps holder).1.born minute then (alg0, di0, 25) else
 if (macS a (openT a c t).1 (grantM t)).2.2 = 0 then restrS (macS a (openT a c t).1 (grantM t)).1 ⟨t, [], (macS a (openT a c t).1 (grantM t)).2.1⟩ (holdP holder) else (alg0, di0, (macS a (openT a c t).1 (grantM t)).2.2)
theorem grantS_in {a : Alg} {m : Nat} (h : AlgIn a m) (c : Co) (t holder : List UInt8) (minute : Int) : AlgIn (grantS a c t holder minute).1 (m + 2) := by
 unfold grantS
 repeat' split
 all_goals first | exact alg0_in _ | exact restrS_in (macS_in h _ _) _ _
set_option maxHeartbeats 1000000 in
theorem refGrant_spec (a : Alg) (m : Nat) (ha : AlgIn a m) (hm : m ≤ 800000) (c : Co) (hc : c.ps.length ≤ 1000000) (t : List UInt8) (ht : t.length ≤ 100000) (holder : List UInt8) (hh : holder.length ≤ 100000) (minute : Int) (k : Nat) :
  ACall Tryz.prog 54 [algAV a, concAV c, .slice none (t.map byteAV), strAV holder, .lit (.int .i64 minute)] k [] (mdAV (grantS a c t holder minute)) [] := by
 have hnv : strAV holder = .lit (.string ⟨holder.toArray⟩) := rfl
 have c1 := Name_spec holder (by omega)
 unfold grantS
 cases hn : nameB holder with
 | false =>
  rw [if_pos rfl]
  rw [hn] at c1
  unfold mdAV
  simp only [alg0_eq, di0_eq]
  clear ha
  refine Bd Tryz.func54 Tryz.ntmps54 fun σ N hp hpn hk hkn hfree => ?_
  have hcs := And.intro c1 True.intro
  clear c1
  refine Wk ?_
  exact WD
 | true =>
  rw [if_neg (by simp)]
  rw [hn] at c1
  by_cases h1 : minute < 0
  ·rw [if_pos (.inl h1)]
   unfold mdAV
   simp only [alg0_eq, di0_eq]
   clear ha
   refine Bd Tryz.func54 Tryz.ntmps54 fun σ N hp hpn hk hkn hfree => ?_
   have hcs := And.intro c1 True.intro
   clear c1
   refine Wk ?_
   exact WD
  by_cases h2 : 67108864 < minute
  ·rw [if_pos (.inr h2)]
   unfold mdAV
   simp only [alg0_eq, di0_eq]
   clear ha
   refine Bd Tryz.func54 Tryz.ntmps54 fun σ N hp hpn hk hkn hfree => ?_
   have hcs := And.intro c1 True.intro
   clear c1
   refine Wk ?_
   exact WD
  rw [if_neg (by omega)]
  have c2 := refOpenT_spec a m ha (by omega) c t ht
  generalize hX : openT a c t = X at *
  obtain ⟨kt, te, e1'⟩ := X
  unfold moAV at c2
  simp only at c2 ⊢
  by_cases he : e1' = 0
  ·subst he
   rw [if_neg (by simp)]
   obtain ⟨pa, ck, ps⟩ := c
   simp only at hc c2 ⊢
   have c3 := refFind_spec pa ck ps holder hc
   generalize findP ps holder = Y at *
   obtain ⟨pe, ok⟩ := Y
   simp only at c3 ⊢
   cases ok with
   | false =>
    rw [if_pos rfl]
    unfold mdAV
    simp only [alg0_eq, di0_eq]
    clear ha hX
    refine Bd Tryz.func54 Tryz.ntmps54 fun σ N hp hpn hk hkn hfree => ?_
    have hcs := And.intro c1 (And.intro c2 (And.intro c3 True.intro))
    clear c1 c2 c3
    refine Wk ?_
    exact WD
   | true =>
    rw [if_neg (by simp)]
    obtain ⟨pn, pb⟩ := pe
    have c4 := refAge_spec pn pb minute
    simp only
    generalize ageS pb minute = A at *
    obtain ⟨x, y⟩ := te
    simp only [teAV] at c2
    simp only
    by_cases h3 : A < x
    ·rw [if_pos (.inl h3)]
     unfold mdAV
     simp only [alg0_eq, di0_eq]
     clear ha hX
     refine Bd Tryz.func54 Tryz.ntmps54 fun σ N hp hpn hk hkn hfree => ?_
     have hcs := And.intro c1 (And.intro c2 (And.intro c3 (And.intro c4 True.intro)))
     clear c1 c2 c3 c4
     refine Wk ?_
     exact WD
    by_cases h4 : y < A
    ·rw [if_pos (.inr h4)]
     unfold mdAV
     simp only [alg0_eq, di0_eq]
     clear ha hX
     refine Bd Tryz.func54 Tryz.ntmps54 fun σ N hp hpn hk hkn hfree => ?_
     have hcs := And.intro c1 (And.intro c2 (And.intro c3 (And.intro c4 True.intro)))
     clear c1 c2 c3 c4
     refine Wk ?_
     exact WD
    rw [if_neg (by rintro (h | h); · exact h3 h
                   ·exact h4 h)]
    have c5 := refGrantM_spec t (by omega)
    have c6 := Mac_spec a kt (grantM t) (by have := ha.ml; omega) ha.mm
    have hin := macS_in ha kt (grantM t)
    generalize macS a kt (grantM t) = Z at *
    obtain ⟨a1, t1, e2'⟩ := Z
    generalize grantM t = M at *
    unfold mkAV at c6
    simp only at c6 hin ⊢
    by_cases h5 : e2' = 0
    ·subst h5
     rw [if_pos rfl]
     have c7 := refRestr_spec a1 (m + 1) hin (by omega) ⟨t, [], t1⟩ (by simp) (holdP holder) ⟨by simp [holdP], by simp [holdP], by simp only [holdP]; have := nameB_len hn; omega⟩
     generalize restrS a1 ⟨t, [], t1⟩ (holdP holder) = R at *
     obtain ⟨a2, d2, e3'⟩ := R
     unfold mdAV at *
     simp only [diAV, holdP, prAV, List.map_nil] at c7
     simp only
     clear ha hX hin
     have hd2 : diAV d2 = .agg [.slice none (d2.ticket.map byteAV), .slice none (d2.conds.map prAV), tagAV d2.tag] := rfl
     refine Bd Tryz.func54 Tryz.ntmps54 fun σ N hp hpn hk hkn hfree => ?_
     have hcs := And.intro c1 (And.intro c2 (And.intro c3 (And.intro c4 (And.intro c5 (And.intro c6 (And.intro c7 True.intro))))))
     clear c1 c2 c3 c4 c5 c6 c7
     refine Wk ?_
     exact WD
    ·rw [if_neg h5]
     have h5i : ((e2' : Int) != 0) = true := by simp; omega
     unfold mdAV
     simp only [alg0_eq, di0_eq]
     clear ha hX hin
     refine Bd Tryz.func54 Tryz.ntmps54 fun σ N hp hpn hk hkn hfree => ?_
     have hcs := And.intro c1 (And.intro c2 (And.intro c3 (And.intro c4 (And.intro c5 (And.intro c6 True.intro)))))
     clear c1 c2 c3 c4 c5 c6
     refine Wk ?_
     exact WD
  ·rw [if_pos he]
   have h1i : ((e1' : Int) != 0) = true := by simp; omega
   unfold mdAV
   simp only [alg0_eq, di0_eq]
   clear ha hX
   refine Bd Tryz.func54 Tryz.ntmps54 fun σ N hp hpn hk hkn hfree => ?_
   have hcs := And.intro c1 (And.intro c2 True.intro)
   clear c1 c2
   refine Wk ?_
   exact WD
end

section
variable [W : W32]
theorem nodeS_ok {a : Alg} {m : Nat} (h : AlgIn a m) (hm : m ≤ 60000) (key : Tg) {msg : List UInt8} (hl : msg.length ≤ 4096) : (macS a key msg).2.2 = 0 ∧ (macS (macS a key msg).1 (macS a key msg).2.1 nodeB).2.2 = 0 ∧ nodeS a key msg = ((macS (macS a key msg).1 (macS a key msg).2.1 nodeB).1, (macS a key msg).2.1, 0) := by
 have h1 : (macS a key msg).2.2 = 0 := macS_ok key hl (by have := h.ml; omega)
 have h2 : (macS (macS a key msg).1 (macS a key msg).2.1 nodeB).2.2 = 0 := macS_ok _ (by decide) (by have := (macS_in h key msg).ml; omega)
 exact ⟨h1, h2, nodeS_3 h1 h2⟩
theorem nodeS_keeps {a : Alg} {m : Nat} (h : AlgIn a m) (hm : m ≤ 60000) (key : Tg) {msg : List UInt8} (hl : msg.length ≤ 4096) : (nodeS a key msg).2.2 = 0 ∧ (nodeS a key msg).1.free = a.free ∧ (nodeS a key msg).1.fresh = a.fresh ∧ (nodeS a key msg).1.boxes = a.boxes := by
 obtain ⟨h1, h2, h3⟩ := nodeS_ok h hm key hl
 obtain ⟨a1, _, a3, a4⟩ := macS_free h1
 obtain ⟨b1, _, b3, b4⟩ := macS_free h2
 rw [h3]
 exact ⟨rfl, b1.trans a1, b3.trans a3, b4.trans a4⟩
theorem AlgOk.node {a : Alg} {m : Nat} (ok : AlgOk a) (h : AlgIn a m) (hm : m ≤ 60000) (key : Tg) {msg : List UInt8} (hl : msg.length ≤ 4096) : AlgOk (nodeS a key msg).1 := by
 obtain ⟨h1, h2, h3⟩ := nodeS_ok h hm key hl
 rw [h3]
 exact (ok.mac key msg).mac _ _
theorem attS_ok {a : Alg} {m : Nat} (h : AlgIn a m) (hm : m ≤ 60000) {p : Pa} {c : Ca} (hc : cavB c = true) (hl : p.cavs.length < 64) (ht : c.third = true → thirdsS p.cavs < 8) :
  attS a p c = ((nodeS a p.tag (cavM c)).1, ⟨p.epoch, p.serial, p.cavs ++ [c], (nodeS a p.tag (cavM c)).2.1⟩, 0) := by
 have h1 := (nodeS_keeps h hm p.tag (msg := cavM c) (by have := cavM_len c; omega)).1
 unfold attS
 rw [if_neg (by rw [hc]; simp), if_neg (by rintro (h | ⟨h, h'⟩); · omega
                                           ·have := ht h; omega), if_pos h1]
theorem restrS_ok {a : Alg} {m : Nat} (h : AlgIn a m) (hm : m ≤ 60000) {d : Di} {p : Pr} (hp : predB p = true) (hk : p.kind ≠ 7) (hl : d.conds.length < 8) :
  (macS a d.tag (condM p)).2.2 = 0 ∧ restrS a d p = ((macS a d.tag (condM p)).1, ⟨d.ticket, d.conds ++ [p], (macS a d.tag (condM p)).2.1⟩, 0) := by
 have h1 : (macS a d.tag (condM p)).2.2 = 0 := macS_ok _ (by have := condM_len p; omega) (by have := h.ml; omega)
 refine ⟨h1, ?_⟩
 unfold restrS
 rw [if_neg (by rw [hp]; simp), if_neg hk, if_neg (by omega), if_pos h1]
theorem blankS_ok {a : Alg} {m : Nat} (h : AlgIn a m) (hm : m ≤ 60000) {c : Co} {t : Te} (ht : teB t = true) (h0 : 0 ≤ c.party) (h7 : c.party ≤ 7) :
  keyS a = ({ a with fresh := a.fresh + 1 }, if a.free then symT 107 (a.fresh + 1) else derT a.seed (a.fresh + 1), 0) ∧ (sealS (keyS a).1 c.key (keyS a).1.fresh (plainT (keyS a).2.1 t)).2.2 = 0 ∧
  blankS a c t = ((sealS (keyS a).1 c.key (keyS a).1.fresh (plainT (keyS a).2.1 t)).1, ⟨c.party, (keyS a).2.1, (sealS (keyS a).1 c.key (keyS a).1.fresh (plainT (keyS a).2.1 t)).2.1⟩, 0) := by
 have hk := keyS_ok (a := a) (by have := h.f1; omega)
 have h2 : (sealS (keyS a).1 c.key (keyS a).1.fresh (plainT (keyS a).2.1 t)).2.2 = 0 := by
  refine sealS_ok _ ?_ ?_ (by have := plainT_len (keyS a).2.1 t ht; omega) ?_
  ·rw [hk]; have := h.f0; simp only; omega
  ·rw [hk]; have := h.f1; simp only; omega
  ·rw [hk]; have := h.bl; simp only; omega
 refine ⟨hk, h2, ?_⟩
 unfold blankS
 rw [if_neg (by rintro (h | h | h); · rw [ht] at h; cases h
                ·omega
                ·omega), if_pos (by rw [hk]), if_pos h2]
theorem sealS_box {a : Alg} (ok : AlgOk a) {key : Tg} {nonce : Int} {plain : List UInt8} (h : (sealS a key nonce plain).2.2 = 0) : (sealS a key nonce plain).2.1.length = plain.length + 40 := by
 unfold sealS at h ⊢
 split at h
 ·cases h
 ·rename_i h1
  split at h
  ·cases h
  ·rename_i h2
   rw [if_neg h1, if_neg h2]
   split at h
   ·rename_i b hb
    obtain ⟨e, he, k1, k2, k3, k4⟩ := boxL_mem hb
    simp only
    rw [← k4, ← k3]
    cases hfr : a.free with
    | true =>
     obtain ⟨i, hi, rfl⟩ := List.getElem_of_mem he
     rw [ok.bf hfr i hi, List.length_append, List.length_replicate, (symT _ _).2]; omega
    | false => rw [ok.bn hfr e he, sealB_len]
   ·split at h
    ·cases h
    ·rename_i h3
     rw [if_neg h3]
     simp only
     unfold sealN
     split
     ·rw [List.length_append, List.length_replicate, (symT _ _).2]; omega
     ·rw [sealB_len]
theorem addS_ok {a : Alg} {m : Nat} (ok : AlgOk a) (h : AlgIn a m) (hm : m ≤ 50000) {p : Pa} {b : Bl} (_hl : p.cavs.length < 64) (_ht : thirdsS p.cavs < 8) (b0 : 0 ≤ b.party) (b7 : b.party ≤ 7) (t1 : 1 ≤ b.ticket.length) (t2 : b.ticket.length ≤ 1024) :
  (macS a p.tag (sealM b.ticket)).2.2 = 0 ∧ (sealS (macS a p.tag (sealM b.ticket)).1 (macS a p.tag (sealM b.ticket)).2.1 0 b.key.1).2.2 = 0 ∧
  cavB ⟨true, zeroPr, b.party, b.ticket, (sealS (macS a p.tag (sealM b.ticket)).1 (macS a p.tag (sealM b.ticket)).2.1 0 b.key.1).2.1⟩ = true ∧
  addS a p b = attS (sealS (macS a p.tag (sealM b.ticket)).1 (macS a p.tag (sealM b.ticket)).2.1 0 b.key.1).1 p ⟨true, zeroPr, b.party, b.ticket, (sealS (macS a p.tag (sealM b.ticket)).1 (macS a p.tag (sealM b.ticket)).2.1 0 b.key.1).2.1⟩ := by
 have h1 : (macS a p.tag (sealM b.ticket)).2.2 = 0 := macS_ok _ (by simp [sealM]; omega) (by have := h.ml; omega)
 have hin := macS_in h p.tag (sealM b.ticket)
 have h2 : (sealS (macS a p.tag (sealM b.ticket)).1 (macS a p.tag (sealM b.ticket)).2.1 0 b.key.1).2.2 = 0 := sealS_ok _ (by omega) (by omega) (by rw [b.key.2]; decide) (by have := hin.bl; omega)
 refine ⟨h1, h2, ?_, by unfold addS; rw [if_pos h1, if_pos h2]⟩
 have hb := sealS_box (ok.mac _ _) h2
 obtain ⟨n, hn⟩ := Int.eq_ofNat_of_zero_le b0
 rw [hn]
 refine (CV.third n (by omega) _ _ ⟨t1, t2⟩ ?_).ok
 rw [b.key.2] at hb
 omega
omit W in
theorem age_ok {b mi : Int} (h0 : 0 ≤ mi) (h1 : mi ≤ 10000) (h2 : -60000000 ≤ b) (h3 : b ≤ 0) : 0 ≤ ageS b mi ∧ ageS b mi ≤ 150 := by
 unfold ageS
 split
 ·omega
 ·split <;> omega
end

section
variable [W : W32]
theorem macS_sub {a : Alg} {key : Tg} {msg : List UInt8} (h : (macS a key msg).2.2 = 0) : ∀ e ∈ a.macs, e ∈ (macS a key msg).1.macs := fun e he => by
 by_cases h1 : 4096 < msg.length
 ·rw [macS_long h1] at h; cases h
 ·cases hE : entL key msg a.macs with
  | some t => rw [macS_found h1 hE]; exact he
  | none =>
   by_cases hf : 65536 ≤ a.macs.length
   ·rw [macS_full h1 hE hf] at h; cases h
   ·rw [macS_new h1 hE hf]; exact List.mem_append_left _ he
theorem macS_mem {a : Alg} {key : Tg} {msg : List UInt8} (h : (macS a key msg).2.2 = 0) : (⟨key, msg, (macS a key msg).2.1⟩ : MacE) ∈ (macS a key msg).1.macs := by
 by_cases h1 : 4096 < msg.length
 ·rw [macS_long h1] at h; cases h
 ·cases hE : entL key msg a.macs with
  | some t =>
   rw [macS_found h1 hE]
   obtain ⟨⟨x, y, z⟩, he, h2, h3, h4⟩ := entL_mem hE
   simp only at h2 h3 h4
   subst h2 h3 h4
   exact he
  | none =>
   by_cases hf : 65536 ≤ a.macs.length
   ·rw [macS_full h1 hE hf] at h; cases h
   ·rw [macS_new h1 hE hf]; exact List.mem_append_right _ (List.mem_singleton.2 rfl)
omit W in
def nodeIn (M : List MacE) (k : Tg) (m : List UInt8) (t : Tg) : Prop := (⟨k, m, t⟩ : MacE) ∈ M ∧ ∃ id, (⟨t, nodeB, id⟩ : MacE) ∈ M
omit W in
def pathIn (M : List MacE) : Tg → List (List UInt8) → Tg → Prop
 | k, [], t => k = t
 | k, m :: r, t => ∃ t', nodeIn M k m t' ∧ pathIn M t' r t
omit W in
theorem nodeIn.sub {M M' : List MacE} (hs : ∀ e ∈ M, e ∈ M') {k : Tg} {m : List UInt8} {t : Tg} (h : nodeIn M k m t) : nodeIn M' k m t := by
 obtain ⟨h1, id, h2⟩ := h
 exact ⟨hs _ h1, id, hs _ h2⟩
omit W in
theorem pathIn.sub {M M' : List MacE} (hs : ∀ e ∈ M, e ∈ M') : ∀ {L : List (List UInt8)} {k t : Tg}, pathIn M k L t → pathIn M' k L t
 | [], _, _, h => h
 | _ :: _, _, _, h => by
  obtain ⟨t', h1, h2⟩ := h
  exact ⟨t', h1.sub hs, h2.sub hs⟩
omit W in
theorem pathIn.snoc {M : List MacE} {m : List UInt8} {t t0 : Tg} (hn : nodeIn M t0 m t) : ∀ {L : List (List UInt8)} {k : Tg}, pathIn M k L t0 → pathIn M k (L ++ [m]) t
 | [], k, h => by
  have h : k = t0 := h
  subst h
  exact ⟨t, hn, rfl⟩
 | _ :: _, _, h => by
  obtain ⟨t', h1, h2⟩ := h
  exact ⟨t', h1, h2.snoc hn⟩
theorem nodeS_mem {a : Alg} {m : Nat} (h : AlgIn a m) (hm : m ≤ 60000) (key : Tg) {msg : List UInt8} (hl : msg.length ≤ 4096) :
  nodeIn (nodeS a key msg).1.macs key msg (nodeS a key msg).2.1 ∧ ∀ e ∈ a.macs, e ∈ (nodeS a key msg).1.macs := by
 obtain ⟨h1, h2, h3⟩ := nodeS_ok h hm key hl
 rw [h3]
 exact ⟨⟨macS_sub h2 _ (macS_mem h1), _, macS_mem h2⟩, fun e he => macS_sub h2 e (macS_sub h1 e he)⟩
theorem look_in {a : Alg} (ok : AlgOk a) {e : MacE} (he : e ∈ a.macs) : lookO a e.key e.msg = some e.tag := by
 unfold lookO
 cases hf : a.free with
 | true => rw [if_pos rfl]; exact ok.mu e he
 | false =>
  have := ok.ml e he
  rw [if_neg (by simp), if_neg (by omega), ok.mn hf e he]
end
end Go.Proofs.YtdmjpolnbmoehaaGreatDoor

namespace Go.Proofs.YtdmjpolnbmoehaaGreatDoor
open Go.Ab
attribute [local irreducible] Go.Ab.tyAV Go.Ab.aw Go.Ab.aops Go.Ab.kReg Go.Ab.aThen Go.Ab.aBlk Go.Ab.acond Go.Ab.aguard Go.Ab.astep Go.Ab.AStepX Go.Ab.aRet
theorem bnumbers_spec (ns : List Nat) (bs : List UInt8) (h0 : 0 < ns.length) (hb : bs.length + 8 * ns.length ≤ 1000000) (hn : ∀ n ∈ ns, n ≤ 281474976710656) (R : List UInt8) (hR : bs ++ ns.flatMap leb = R) (k : Nat) :
  ACall Tryz.prog 174 [.slice none (bs.map byteAV), natsAV ns] k [] (.slice (some k) (R.map byteAV)) [(k, .row 5 1 R.length)] := by
 refine Bd Tryz.func174 Tryz.ntmps174 fun σ N hp hpn hk hkn hfree => ?_
 refine Wk ?_
 refine go_loopP (ns.length) (N) mixed (by kernel_rfl) [0, 6, 9, 10, 11, 12, 13, 14, 15, 16, 17, 18, 19] [] (fun s_ σ_ n_ => s_ 9 = .lit (.int .i64 0) ∧ s_ 0 = .slice none (bs.map byteAV) ∧ True) (fun m_ s_ σ_ n_ => ∃ (u : Nat) (q : Nat) (acc : List UInt8), m_ = ns.length - u ∧ s_ 9 = .lit (.int .i64 u) ∧ s_ 0 = .slice (some q) (acc.map byteAV) ∧ σ_ (q) = .row 5 1 acc.length ∧ (u ≤ ns.length) ∧ (acc.length ≤ bs.length + 8 * u) ∧ (acc = bs ++ (ns.take u).flatMap leb) ∧ (N ≤ q) ∧ (q < n_)) ⟨WF, WF, trivial⟩ ?_ ?_
 ·intro s_1 σ_1 n_1 hs_1 hf_1 hn_1 hI_1
  obtain ⟨h1_9, h1_0, -⟩ := hI_1
  have h1_4 := KS hs_1 4
  have h1_7 := KS hs_1 7
  have h1_8 := KS hs_1 8
  have hlow := KL (N := N) (σ := σ) hf_1
  obtain ⟨c, hc⟩ : ∃ c, ns[0] = c := ⟨_, rfl⟩
  have hcn : c ≤ 281474976710656 := hn c (by rw [← hc]; exact List.getElem_mem h0)
  have hcl := leb_len c 7 (by omega)
  have c1 := Append_ok bs (by omega) c hcn
  have hacc2 : bs ++ leb c = bs ++ (ns.take (0 + 1)).flatMap leb := by
   rw [List.take_add_one, List.getElem?_eq_getElem h0, hc]
   simp
  have hal2 : (bs ++ leb c).length ≤ bs.length + 8 * (0 + 1) := by rw [List.length_append]; omega
  have hll : bs.length + (leb c).length = (bs ++ leb c).length := by simp
  rw [hll] at c1
  generalize bs ++ leb c = acc2 at *
  have hcs := And.intro c1 True.intro
  clear c1 hll hR
  refine Wk ?_
  exact ⟨WS, WG, WN, _, (show ns.length - (1) < (ns.length) by omega), 1, _, acc2, rfl, WF, WF, WF, WC, WC, WC, WC, WC⟩
 intro m_1 s_1 σ_1 n_1 hs_1 hf_1 hn_1 hI_1
 obtain ⟨u, q, acc, hm_1, h1_9, h1_0, e1_0, hu, hal, hacc, hq, hqn⟩ := hI_1
 have h1_4 := KS hs_1 4
 have h1_7 := KS hs_1 7
 have h1_8 := KS hs_1 8
 have hlow := KL (N := N) (σ := σ) hf_1
 by_cases hul : u = ns.length
 ·rw [hul, List.take_length, hR] at hacc
  subst hul hacc
  clear hR
  refine Wk ?_
  refine go_result1 (r0 := q) (by simp (disch := omega) [go_sem, *, -List.reduceReplicate]; rfl) (by omega) (by simp (disch := omega) [go_sem]; try rfl) (fun id hid => by simp (disch := omega) only; try exact hlow id hid) (by simp (disch := omega) [go_sem, *, -List.reduceReplicate]; rfl) (by simp (disch := omega) [go_sem])
 ·have hui : u < ns.length := by omega
  obtain ⟨c, hc⟩ : ∃ c, ns[u] = c := ⟨_, rfl⟩
  have hcn : c ≤ 281474976710656 := hn c (by rw [← hc]; exact List.getElem_mem hui)
  have hcl := leb_len c 7 (by omega)
  have c1 := Append_ok acc (by omega) c hcn
  have hacc2 : acc ++ leb c = bs ++ (ns.take (u + 1)).flatMap leb := by
   rw [List.take_add_one, List.getElem?_eq_getElem hui, hc, hacc]
   simp
  have hal2 : (acc ++ leb c).length ≤ bs.length + 8 * (u + 1) := by rw [List.length_append]; omega
  have hll : acc.length + (leb c).length = (acc ++ leb c).length := by simp
  rw [hll] at c1
  clear hacc hll hR
  generalize acc ++ leb c = acc2 at *
  have hcs := And.intro c1 True.intro
  clear c1
  refine Wk ?_
  exact ⟨WS, WG, WN, _, (show ns.length - (u + 1) < m_1 by omega), u + 1, _, acc2, rfl, WF, WF, WF, WC, WC, WC, WC, WC⟩
end Go.Proofs.YtdmjpolnbmoehaaGreatDoor
