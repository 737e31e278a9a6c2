/- Texts E12, E10, Y10, U25, E20, U26, Y11, joined. -/
import Derived.Test.YtemmlldpmgfblaaGreatDoorMC1

namespace Go.Proofs.YtemmlldpmgfblaaGreatDoor
open Go.Ab
theorem chunks6_len_eq (l : List Bool) : (chunks6 l).length = (l.length + 5) / 6 := by
 induction h : l.length using Nat.strongRecOn generalizing l with
 | _ n ih =>
  rw [chunks6]
  split
  ·rename_i h0; subst h0; simp at h; subst h; rfl
  ·rename_i hne
   have h0 : 0 < l.length := List.length_pos_iff.2 hne
   have hd : (l.drop 6).length = l.length - 6 := List.length_drop
   have := ih (l.drop 6).length (by omega) (l.drop 6) rfl
   simp only [List.length_cons]; omega
theorem textS_len_eq (b : List UInt8) : (textS b).length = (8 * b.length + 5) / 6 := by
 rw [textS, List.length_map, chunks6_len_eq, bitsB_len]
theorem decS_len (s : List UInt8) : (decS s).1.length ≤ 5000 := by
 unfold decS
 split
 ·simp
 ·split
  ·simp
  ·rename_i vs hv
   have := vals_len _ _ hv
   split
   ·simp
   ·split
    ·simp
    ·simp only [grp8_len, bits6_len]; omega

theorem bits6_chunks6 (l : List Bool) : bits6 (chunks6 l) = l ++ List.replicate ((6 - l.length % 6) % 6) false := by
 induction h : l.length using Nat.strongRecOn generalizing l with
 | _ n ih =>
  rw [chunks6]
  split
  ·rename_i h0; subst h0; simp at h; subst h; rfl
  ·rename_i hne
   have h0 : 0 < l.length := List.length_pos_iff.2 hne
   have hd : (l.drop 6).length = l.length - 6 := List.length_drop
   have hx : (l.take 6 ++ List.replicate (6 - l.length) false).length = 6 := by simp; omega
   have hb := bitsN_num (l.take 6 ++ List.replicate (6 - l.length) false)
   rw [hx] at hb
   rw [bits6_cons, hb, ih (l.drop 6).length (by omega) (l.drop 6) rfl, hd]
   by_cases h6 : 6 ≤ l.length
   ·rw [show 6 - l.length = 0 by omega, List.replicate_zero, List.append_nil, ← List.append_assoc, List.take_append_drop, show (l.length - 6) % 6 = n % 6 by omega]
   ·rw [List.drop_eq_nil_of_le (by omega), List.take_of_length_le (by omega), show (6 - (l.length - 6) % 6) % 6 = 0 by omega, show (6 - n % 6) % 6 = 6 - l.length by omega]
    simp
theorem chunks6_lt (l : List Bool) : ∀ v ∈ chunks6 l, v < 64 := by
 induction h : l.length using Nat.strongRecOn generalizing l with
 | _ n ih =>
  rw [chunks6]
  split
  ·intro v hv; cases hv
  ·rename_i hne
   have h0 : 0 < l.length := List.length_pos_iff.2 hne
   have hd : (l.drop 6).length = l.length - 6 := List.length_drop
   intro v hv
   rcases List.mem_cons.1 hv with rfl | hv
   ·have hx : (l.take 6 ++ List.replicate (6 - l.length) false).length = 6 := by simp; omega
    have := num_lt (l.take 6 ++ List.replicate (6 - l.length) false)
    rw [hx] at this; exact this
   ·exact ih (l.drop 6).length (by omega) (l.drop 6) rfl v hv
theorem vals_map : ∀ (L : List Nat), (∀ v ∈ L, v < 64) → vals (L.map alph) = some L
 | [], _ => rfl
 | v :: r, h => by
  obtain ⟨h1, h2⟩ := (alph_val (alph v) v (h v (by simp))).1 rfl
  simp only [List.map_cons, vals]
  rw [if_pos h1, vals_map r (fun x hx => h x (by simp [hx])), h2, Option.map_some]
theorem grp8_bitsB (b : List UInt8) (z : List Bool) (hz : z.length < 8) : grp8 (bitsB b ++ z) = b ∧ left8 (bitsB b ++ z) = z := by
 induction b with
 | nil => rw [bitsB_nil, List.nil_append]; exact ⟨grp8_small hz, left8_small hz⟩
 | cons x r ih =>
  have hl := bits8_len x
  have h8 : 8 ≤ (bitsB (x :: r) ++ z).length := by rw [bitsB_cons, List.length_append, List.length_append]; omega
  have h1 : (bitsB (x :: r) ++ z).take 8 = bits8 x := by rw [bitsB_cons, List.append_assoc, ← hl, List.take_left]
  have h2 : (bitsB (x :: r) ++ z).drop 8 = bitsB r ++ z := by rw [bitsB_cons, List.append_assoc, ← hl, List.drop_left]
  rw [grp8_big h8, left8_big h8, h1, h2, ih.1, ih.2, num_bits8, UInt8.ofNat_toNat]
  exact ⟨rfl, rfl⟩
theorem num_rep (n : Nat) : num (List.replicate n false) = 0 := num_zero _ fun j h => by
 rw [List.getElem?_replicate] at h
 split at h <;> simp at h
theorem back_plain (b : List UInt8) (h : b.length ≤ 4096) : decS (textS b) = (b, 0) := by
 have hl := textS_len_eq b
 have hb := bitsB_len b
 rw [decS, if_neg (by omega), textS, vals_map _ (chunks6_lt _)]
 simp only
 rw [if_neg (by rw [List.length_map, chunks6_len_eq, hb]; omega), bits6_chunks6]
 obtain ⟨h1, h2⟩ := grp8_bitsB b (List.replicate ((6 - (bitsB b).length % 6) % 6) false) (by rw [List.length_replicate]; omega)
 rw [h1, h2, num_rep, if_neg (by simp)]
end Go.Proofs.YtemmlldpmgfblaaGreatDoor

namespace Go.Proofs.YtemmlldpmgfblaaGreatDoor
open Go.Ab
attribute [local irreducible] Go.Ab.tyAV Go.Ab.aw Go.Ab.aops Go.Ab.kReg Go.Ab.aThen Go.Ab.aBlk Go.Ab.acond Go.Ab.aguard Go.Ab.astep Go.Ab.AStepX Go.Ab.aRet
def parB (s : List UInt8) : Bu × Nat := if (decS s).2 ≠ 0 then (bu0, (decS s).2) else decB (decS s).1
theorem BParse_spec (s : List UInt8) (hs : s.length ≤ 9223372036854775807) (d k : Nat) : ACall Tryz.prog 46 [strAV s] k [(d, bitsG)] (decBAV (parB s)) [] := by
 have c1 := dec_spec s hs
 have hl := decS_len s
 unfold parB
 generalize decS s = R at *
 obtain ⟨x, e⟩ := R
 simp only [decAV] at *
 by_cases he : e ≠ 0
 ·rw [if_pos he]
  have he' : ((e : Int) != 0) = true := by simp; omega
  simp only [decBAV]
  rw [bu0_eq]
  refine Bd Tryz.func46 Tryz.ntmps46 fun σ N hp hpn hk hkn hfree => ?_
  obtain ⟨hd, hdn⟩ := HD0 hp hpn; clear hp hpn
  have hcs := And.intro c1 True.intro
  clear c1
  exact WD
 ·obtain rfl : e = 0 := by omega
  rw [if_neg he]
  have c2 := bDec_spec x (by omega) d
  generalize decB x = Q at *
  obtain ⟨B, f⟩ := Q
  simp only [decBAV] at *
  refine Bd Tryz.func46 Tryz.ntmps46 fun σ N hp hpn hk hkn hfree => ?_
  obtain ⟨hd, hdn⟩ := HD0 hp hpn; clear hp hpn
  have hcs := And.intro c1 (And.intro c2 True.intro)
  clear c1 c2
  exact WD
theorem parB_text (z : Bu) (hz : BuIn z) (hc : chkS z = 0) : parB (textS (encBu z)) = (z, 0) := by
 unfold parB
 rw [back_plain _ (chk_valid hz hc).2, if_neg (by simp)]
 exact decB_enc z hz hc
theorem BuV.sm {z : Bu} (h : BuV z) : BuSm z :=
 ⟨Nat.le_trans h.cl (by decide), Nat.le_trans h.dl (by decide), fun c hc => by
  have := CV.of (h.cv c hc).1
  cases this with
  | first p hp => exact ⟨by simp, by simp⟩
  | third n hn t b ht hb => exact ⟨by simp only; omega, by simp only; omega⟩, fun d hd => by
  have := h.dv d hd
  exact ⟨Nat.le_trans this.t2 (by decide), Nat.le_trans this.cl (by decide)⟩⟩

structure BuW (b : Bu) : Prop where
 cl : b.cavs.length ≤ 9223372036854775807
 dl : b.dis.length ≤ 9223372036854775807
 ok : ∀ c ∈ b.cavs, PrOk c.first ∧ c.ticket.length ≤ 9223372036854775807 ∧ c.box.length ≤ 9223372036854775807
 di : ∀ d ∈ b.dis, BoIn d
theorem u64_wf {a : Int} (h : (Lit.int .u64 a).wf = true) : 0 ≤ a ∧ a < 18446744073709551616 := by
 have hw : IntKind.u64.min ≤ a ∧ a ≤ IntKind.u64.max := by simpa [Lit.wf] using h
 have e1 : IntKind.u64.min = 0 := by decide
 have e2 : IntKind.u64.max = 18446744073709551615 := by decide
 omega
theorem pre_ty {m : Nat} {x : AV} (h : tyAV Tryz.prog (m + 2) 110 x) : ∃ p : Pr, PrOk p ∧ x = prAV p := by
 obtain ⟨xs, rfl, h1, h2⟩ := ty_struct Tryz.underlying110 h
 obtain ⟨a, b, c, d, e, f, rfl⟩ : ∃ a b c d e f, xs = [a, b, c, d, e, f] := by
  match xs, h1 with
  | [a, b, c, d, e, f], _ => exact ⟨a, b, c, d, e, f, rfl⟩
 obtain ⟨v1, _, rfl⟩ := ty_int it3 (h2 0 _ _ rfl rfl)
 obtain ⟨v2, w2, rfl⟩ := ty_int it108 (h2 1 _ _ rfl rfl)
 obtain ⟨v3, _, rfl⟩ := ty_int it3 (h2 2 _ _ rfl rfl)
 obtain ⟨v4, _, rfl⟩ := ty_int it3 (h2 3 _ _ rfl rfl)
 obtain ⟨v5, w5, rfl⟩ := ty_str st9 (h2 4 _ _ rfl rfl)
 obtain ⟨v6, _, rfl⟩ := ty_int it3 (h2 5 _ _ rfl rfl)
 exact ⟨⟨v1, v2, v3, v4, v5, v6⟩, ⟨(u64_wf w2).1, (u64_wf w2).2, w5⟩, rfl⟩
theorem bundle_of {x : AV} (h : tyAV Tryz.prog 8 29 x) : ∃ b : Bu, BuW b ∧ x = buAV b := by
 obtain ⟨xs, rfl, h1, h2⟩ := ty_struct Tryz.underlying29 h
 obtain ⟨a, b, c, d, e, f, rfl⟩ : ∃ a b c d e f, xs = [a, b, c, d, e, f] := by
  match xs, h1 with
  | [a, b, c, d, e, f], _ => exact ⟨a, b, c, d, e, f, rfl⟩
 have hca : ∀ y, tyAV Tryz.prog 6 120 y → ∃ c : Ca, (PrOk c.first ∧ c.ticket.length ≤ 9223372036854775807 ∧ c.box.length ≤ 9223372036854775807) ∧ y = caAV c := fun y hy => by
  obtain ⟨ys, rfl, h3, h4⟩ := ty_struct Tryz.underlying120 hy
  obtain ⟨a, b, c, d, e, rfl⟩ : ∃ a b c d e, ys = [a, b, c, d, e] := by
   match ys, h3 with
   | [a, b, c, d, e], _ => exact ⟨a, b, c, d, e, rfl⟩
  obtain ⟨v1, rfl⟩ := ty_bool bt4 (h4 0 _ _ rfl rfl)
  obtain ⟨v2, w2, rfl⟩ := pre_ty (h4 1 _ _ rfl rfl)
  obtain ⟨v3, _, rfl⟩ := ty_int it3 (h4 2 _ _ rfl rfl)
  obtain ⟨v4, w4, rfl⟩ := ty_bytes sl57 by5 (h4 3 _ _ rfl rfl)
  obtain ⟨v5, w5, rfl⟩ := ty_bytes sl57 by5 (h4 4 _ _ rfl rfl)
  exact ⟨⟨v1, v2, v3, v4, v5⟩, ⟨w2, w4, w5⟩, rfl⟩
 have hpr : ∀ y, tyAV Tryz.prog 4 110 y → ∃ p : Pr, PrOk p ∧ y = prAV p := fun y hy => pre_ty hy
 have hbo : ∀ y, tyAV Tryz.prog 6 70 y → ∃ d : Bo, BoIn d ∧ y = boAV d := fun y hy => by
  obtain ⟨ys, rfl, h3, h4⟩ := ty_struct Tryz.underlying70 hy
  obtain ⟨a, b, c, rfl⟩ : ∃ a b c, ys = [a, b, c] := by
   match ys, h3 with
   | [a, b, c], _ => exact ⟨a, b, c, rfl⟩
  obtain ⟨v1, w1, rfl⟩ := ty_bytes sl57 by5 (h4 0 _ _ rfl rfl)
  obtain ⟨v2, ⟨w2, w2'⟩, rfl⟩ := ty_list sl64 hpr (h4 1 _ _ rfl rfl)
  obtain ⟨v3, _, rfl⟩ := ty_tag ar26 by5 (h4 2 _ _ rfl rfl)
  exact ⟨⟨v1, v2, v3⟩, ⟨w1, w2, w2'⟩, rfl⟩
 have hrq : tyAV Tryz.prog 7 23 a → ∃ r : Rq, a = rqAV r := fun hy => by
  obtain ⟨ys, rfl, h3, h4⟩ := ty_struct Tryz.underlying23 hy
  obtain ⟨a, b, rfl⟩ : ∃ a b, ys = [a, b] := by
   match ys, h3 with
   | [a, b], _ => exact ⟨a, b, rfl⟩
  obtain ⟨v1, _, rfl⟩ := ty_int it3 (h4 0 _ _ rfl rfl)
  obtain ⟨v2, _, rfl⟩ := ty_int it3 (h4 1 _ _ rfl rfl)
  exact ⟨⟨v1, v2⟩, rfl⟩
 obtain ⟨v1, rfl⟩ := hrq (h2 0 _ _ rfl rfl)
 obtain ⟨v2, _, rfl⟩ := ty_int it3 (h2 1 _ _ rfl rfl)
 obtain ⟨v3, _, rfl⟩ := ty_int it3 (h2 2 _ _ rfl rfl)
 obtain ⟨v4, ⟨w4, w4'⟩, rfl⟩ := ty_list sl24 hca (h2 3 _ _ rfl rfl)
 obtain ⟨v5, _, rfl⟩ := ty_tag ar26 by5 (h2 4 _ _ rfl rfl)
 obtain ⟨v6, ⟨w6, w6'⟩, rfl⟩ := ty_list sl27 hbo (h2 5 _ _ rfl rfl)
 exact ⟨⟨v1, v2, v3, v4, v5, v6⟩, ⟨w4, w6, w4', w6'⟩, rfl⟩
theorem BuW.fewIn {b : Bu} (h : BuW b) (hf : (decide (b.cavs.length ≤ 80) && decide (b.dis.length ≤ 20)) = true) : BuIn b := by
 rw [Bool.and_eq_true, decide_eq_true_eq, decide_eq_true_eq] at hf
 exact ⟨by omega, by omega, fun c hc => (h.ok c hc).1, h.di⟩

def encT (b : List UInt8) : List UInt8 × Nat := if 4096 < b.length then ([], 2) else (textS b, 0)
theorem EncT_spec (b : List UInt8) (hl : b.length ≤ 9223372036854775807) (k : Nat) :
  ACall Tryz.prog 63 [.slice none (b.map byteAV)] k [] (.tup [strAV (encT b).1, .lit (.int .i64 (encT b).2)]) [] := by
 unfold encT
 by_cases h : 4096 < b.length
 ·rw [if_pos h]; exact enc_long b h hl k
 ·rw [if_neg h]; exact enc_core b (by omega) k

def txtB (b : Bu) : List UInt8 × Nat := if (encBS b).2 = 0 then encT (encBS b).1 else ([], (encBS b).2)
theorem encBS_len (b : Bu) (hb : BuIn b) : (encBS b).1.length ≤ 4096 := by
 unfold encBS
 split
 ·rename_i h; exact (chk_valid hb h).2
 ·simp
theorem BText_spec (b : Bu) (hb : BuIn b) (d k : Nat) : ACall Tryz.prog 22 [buAV b] k [(d, bitsG)] (.tup [strAV (txtB b).1, .lit (.int .i64 (txtB b).2)]) [] := by
 have c1 := EncodeB_spec b hb d
 have hl := encBS_len b hb
 unfold txtB
 generalize encBS b = X at *
 obtain ⟨x, e⟩ := X
 unfold encAV at c1
 simp only at c1 hl ⊢
 have c2 := EncT_spec x (by omega)
 clear hb
 by_cases h : e = 0
 ·subst h
  rw [if_pos rfl]
  generalize encT x = Y at *
  obtain ⟨y, f⟩ := Y
  refine Bd Tryz.func22 Tryz.ntmps22 fun σ N hp hpn hk hkn hfree => ?_
  obtain ⟨hd, hdn⟩ := HD0 hp hpn; clear hp hpn
  have hcs := And.intro c1 (And.intro c2 True.intro)
  clear c1 c2
  exact W0
 ·have hei : ((e : Int) != 0) = true := by simp; omega
  rw [if_neg h]
  clear c2
  have hz : strAV [] = .lit (.string ⟨#[]⟩) := rfl
  simp only
  refine Bd Tryz.func22 Tryz.ntmps22 fun σ N hp hpn hk hkn hfree => ?_
  obtain ⟨hd, hdn⟩ := HD0 hp hpn; clear hp hpn
  have hcs := And.intro c1 True.intro
  clear c1
  exact W0
end Go.Proofs.YtemmlldpmgfblaaGreatDoor

namespace Go.Proofs.YtemmlldpmgfblaaGreatDoor
open Go.Ab
attribute [local irreducible] Go.Ab.tyAV Go.Ab.aw Go.Ab.aops Go.Ab.kReg Go.Ab.aThen Go.Ab.aBlk Go.Ab.acond Go.Ab.aguard Go.Ab.astep Go.Ab.AStepX Go.Ab.aRet
attribute [local irreducible] shaG
def KAsks (d : Nat) (z : Bu) : Prop := (∃ v : Nat, v ≠ 0 ∧ ∀ k, ACall Tryz.prog 18 [buAV z] k [(d, bitsG)] (.lit (.int .i64 (v : Nat))) []) ∨
 ((∀ k, ACall Tryz.prog 18 [buAV z] k [(d, bitsG)] (.lit (.int .i64 0)) []) ∧ ∃ x y : List UInt8, x.length ≤ 4096 ∧
 (∀ k, ACall Tryz.prog 20 [buAV z] k [(d, bitsG)] (.tup [.slice none (x.map byteAV), .lit (.int .i64 0)]) []) ∧
 (∀ k, ACall Tryz.prog 39 [.slice none (x.map byteAV)] k [(d, bitsG)] (.tup [buAV z, .lit (.int .i64 0)]) []) ∧
 (∀ k, ACall Tryz.prog 22 [buAV z] k [(d, bitsG)] (.tup [strAV y, .lit (.int .i64 0)]) []) ∧
 (∀ k, ACall Tryz.prog 46 [strAV y] k [(d, bitsG)] (.tup [buAV z, .lit (.int .i64 0)]) []) ∧
 (∀ k, ACall Tryz.prog 41 [buAV z, buAV z] k [] (.lit (.bool true)) []))
theorem textS_le (b : List UInt8) (h : b.length ≤ 4096) : (textS b).length ≤ 9223372036854775807 := by rw [textS_len_eq]; omega
theorem kasks0 (d : Nat) (z : Bu) (hz : BuIn z) (hc : chkS z = 0) : (∀ k, ACall Tryz.prog 18 [buAV z] k [(d, bitsG)] (.lit (.int .i64 0)) []) ∧ KAsks d z := by
 obtain ⟨hv, hl⟩ := chk_valid hz hc
 have q1 := Check_spec z hz d
 have q2 := EncodeB_spec z hz d
 have q3 := bDec_spec (encBu z) (by omega) d
 have q4 := BText_spec z hz d
 have q5 := BParse_spec (textS (encBu z)) (textS_le _ hl) d
 have hE : encBS z = (encBu z, 0) := by unfold encBS; rw [if_pos hc]
 have hT : txtB z = (textS (encBu z), 0) := by unfold txtB; rw [hE, if_pos rfl]; unfold encT; rw [if_neg (by simp only; omega)]
 rw [hc] at q1
 rw [hE] at q2
 rw [decB_enc z hz hc] at q3
 rw [hT] at q4
 rw [parB_text z hz hc] at q5
 exact ⟨q1, .inr ⟨q1, encBu z, textS (encBu z), hl, q2, q3, q4, q5, SameBu_refl z hv.sm⟩⟩
theorem kasks (d : Nat) (z : Bu) (hz : BuIn z) : KAsks d z := by
 by_cases hc : chkS z = 0
 ·exact (kasks0 d z hz hc).2
 ·exact .inl ⟨chkS z, hc, Check_spec z hz d⟩
section
variable [W : W32]
set_option maxHeartbeats 8000000 in
theorem BundleBack_core (b : Bu) (hb : BuW b) (xs : List Int) (hx : xs.length ≤ 9223372036854775807) (d k : Nat) :
  ACall Tryz.prog 12 [buAV b, .slice none (xs.map intAV)] k [(d, bitsG)] (.lit (.bool true)) [] := by
 have c1 := few_spec b hb.cl hb.dl
 have c9 := awake16_spec d
 cases hf : (decide (b.cavs.length ≤ 80) && decide (b.dis.length ≤ 20)) with
 | false =>
  rw [hf] at c1
  clear hb hf
  refine Bd Tryz.func12 Tryz.ntmps12 fun σ N hp hpn hk hkn hfree => ?_
  obtain ⟨hd, hdn⟩ := HD0 hp hpn; clear hp hpn
  have hcs := And.intro c1 (And.intro c9 True.intro)
  clear c1 c9
  exact W0
 | true =>
  rw [hf] at c1
  have hB := hb.fewIn hf
  obtain ⟨s, j, hs, hj, c2⟩ := made_spec xs hx
  obtain ⟨_, _, h3, hc3, _⟩ := bunS_ok hs
  obtain ⟨c8, e1⟩ := kasks0 d (bunS s).2 h3 hc3
  have e2 := kasks d b hB
  clear hb hf hB hs h3 hc3
  generalize (bunS s).2 = b1 at *
  generalize ({ s with alg := (bunS s).1 } : Sc) = s1 at *
  refine Bd Tryz.func12 Tryz.ntmps12 fun σ N hp hpn hk hkn hfree => ?_
  obtain ⟨hd, hdn⟩ := HD0 hp hpn; clear hp hpn
  have hcs := And.intro c1 (And.intro c2 True.intro)
  clear c1 c2
  refine Wk ?_
  clear hcs
  refine go_loopF mixed (by kernel_rfl) (4 :: 9 :: 10 :: 11 :: 12 :: 13 :: 14 :: 15 :: 16 :: 17 :: 32 :: 33 :: 34 :: 35 :: 36 :: 37 :: 38 :: 39 :: 40 :: 41 :: 42 :: 43 :: 44 :: 45 :: 46 :: 47 :: 48 :: 49 :: 50 :: 51 :: 52 :: 53 :: 54 :: 55 :: 56 :: 57 :: 58 :: 59 :: 60 :: 61 :: 62 :: 63 :: 64 :: 65 :: 66 :: 67 :: 68 :: 69 :: 70 :: 71 :: 72 :: 73 :: 74 :: 75 :: 76 :: 77 :: 78 :: 79 :: 80 :: 81 :: 82 :: 83 :: 84 :: 85 :: 86 :: 87 :: 88 :: 89 :: 90 :: []) [] (fun m_ s_ σ_ n_ => ∃ (u : Nat), m_ = 2 - u ∧ s_ 32 = .lit (.int .i64 u) ∧ (u ≤ 2)) ⟨_, 0, rfl, WF, WC⟩ ?_
  intro m_1 s_1 σ_1 n_1 hs_1 hf_1 hn_1 hI_1
  obtain ⟨u, hm_1, h1_32, hu⟩ := hI_1
  have h1_6 := KS hs_1 6
  have h1_30 := KS hs_1 30
  have h1_31 := KS hs_1 31
  have k1_0 := KE hf_1 (d)
  have k1_1 := KE hf_1 (N + 12)
  have hlow := KL (N := N) (σ := σ) hf_1
  obtain hul | hul | hul : u = 2 ∨ u = 0 ∨ u = 1 := by omega
  ·subst hul
   have hcs := And.intro c8 (And.intro c9 True.intro)
   clear c8 c9 e1 e2
   exact W0
  ·subst hul
   clear c8 c9 e2
   rcases e1 with ⟨v, hv, q1⟩ | ⟨q1, x, y, hx2, q2, q3, q4, q5, q6⟩
   ·have hv' : ((v : Int) != 0) = true := by simp; omega
    have hcs := And.intro q1 True.intro
    clear q1
    refine Wk ?_
    exact ⟨WS, WG, WN, _, (show 2 - (0 + 1) < m_1 by omega), 0 + 1, rfl, WF, WC⟩
   ·have hx3 : ¬ (4096 : Int) < (x.length : Int) := by omega
    have hcs := And.intro q1 (And.intro q2 (And.intro q3 (And.intro q4 (And.intro q5 (And.intro q6 (And.intro q6 True.intro))))))
    clear q1 q2 q3 q4 q5 q6
    refine Wk ?_
    exact ⟨WS, WG, WN, _, (show 2 - (0 + 1) < m_1 by omega), 0 + 1, rfl, WF, WC⟩
  ·subst hul
   clear c8 c9 e1
   rcases e2 with ⟨v, hv, q1⟩ | ⟨q1, x, y, hx2, q2, q3, q4, q5, q6⟩
   ·have hv' : ((v : Int) != 0) = true := by simp; omega
    have hcs := And.intro q1 True.intro
    clear q1
    refine Wk ?_
    exact ⟨WS, WG, WN, _, (show 2 - (1 + 1) < m_1 by omega), 1 + 1, rfl, WF, WC⟩
   ·have hx3 : ¬ (4096 : Int) < (x.length : Int) := by omega
    have hcs := And.intro q1 (And.intro q2 (And.intro q3 (And.intro q4 (And.intro q5 (And.intro q6 (And.intro q6 True.intro))))))
    clear q1 q2 q3 q4 q5 q6
    refine Wk ?_
    exact ⟨WS, WG, WN, _, (show 2 - (1 + 1) < m_1 by omega), 1 + 1, rfl, WF, WC⟩
end
theorem BundleBack_spec (b : Bu) (hb : BuW b) (xs : List Int) (_ : ∀ n ∈ xs, (Lit.int .i64 n).wf = true) (hx : xs.length ≤ 9223372036854775807) (d k : Nat) :
  ACall Tryz.prog 12 [buAV b, .slice none (xs.map intAV)] k [(d, bitsG)] (.lit (.bool true)) [] :=
 @BundleBack_core w32 b hb xs hx d k
end Go.Proofs.YtemmlldpmgfblaaGreatDoor
