/- Texts E1, E2, E3, E4, E5, E6, E7, E12, E10, Y10, E20, U26, joined. -/
import Derived.Test.YtemmlldpmgfblaaGreatDoorME1

namespace Go.Proofs.YtemmlldpmgfblaaGreatDoor
open Go.Ab
attribute [local irreducible] Go.Ab.tyAV Go.Ab.aw Go.Ab.aops Go.Ab.kReg Go.Ab.aThen Go.Ab.aBlk Go.Ab.acond Go.Ab.aguard Go.Ab.astep Go.Ab.AStepX Go.Ab.aRet
theorem i64_and63 (x : Int) (h0 : 0 ≤ x) (h1 : x ≤ 9223372036854775807) : bits .and .i64 x 63 = x % 64 :=
 bits_mask .i64 63 (by decide) (fun n a b => wrap_i64 (by omega) (by omega)) 6 (by decide) x h0 (by omega)
def alph64 : List UInt8 := [65, 66, 67, 68, 69, 70, 71, 72, 73, 74, 75, 76, 77, 78, 79, 80, 81, 82, 83, 84, 85, 86, 87, 88, 89, 90, 97, 98, 99, 100, 101, 102, 103, 104, 105, 106, 107, 108, 109, 110, 111, 112, 113, 114, 115, 116, 117, 118, 119, 120, 121, 122, 48, 49, 50, 51, 52, 53, 54, 55, 56, 57, 45, 95]
def alph (v : Nat) : UInt8 := alph64.getD v 0
theorem alph_get (v : Nat) (h : v < 64) : ∀ h : v < ([65, 66, 67, 68, 69, 70, 71, 72, 73, 74, 75, 76, 77, 78, 79, 80, 81, 82, 83, 84, 85, 86, 87, 88, 89, 90, 97, 98, 99, 100, 101, 102, 103, 104, 105, 106, 107, 108, 109, 110, 111, 112, 113, 114, 115, 116, 117, 118, 119, 120, 121, 122, 48, 49, 50, 51, 52, 53, 54, 55, 56, 57, 45, 95] : List UInt8).length, ([65, 66, 67, 68, 69, 70, 71, 72, 73, 74, 75, 76, 77, 78, 79, 80, 81, 82, 83, 84, 85, 86, 87, 88, 89, 90, 97, 98, 99, 100, 101, 102, 103, 104, 105, 106, 107, 108, 109, 110, 111, 112, 113, 114, 115, 116, 117, 118, 119, 120, 121, 122, 48, 49, 50, 51, 52, 53, 54, 55, 56, 57, 45, 95] : List UInt8)[v] = alph v := by
 intro h2
 have hl : v < alph64.length := h
 have : alph64[v] = alph v := by rw [alph, List.getD_eq_getElem?_getD, List.getElem?_eq_getElem hl]; rfl
 exact this
def textS (b : List UInt8) : List UInt8 := (chunks6 (bitsB b)).map alph
theorem take_num (p : List Bool) (r n : Nat) (hn : p.length = n + 6) (hr : r % 2 ^ (n + 6) = num p) : r / 2 ^ n % 64 = num (p.take 6) ∧ r % 2 ^ n = num (p.drop 6) := by
 have h1 := num_append (p.take 6) (p.drop 6)
 rw [List.take_append_drop] at h1
 have hl : (p.drop 6).length = n := by simp; omega
 have hlt := num_lt (p.drop 6)
 rw [hl] at h1 hlt
 have hp : 0 < 2 ^ n := Nat.two_pow_pos _
 rw [h1] at hr
 have e1 : r % 2 ^ n = num (p.drop 6) := by
  have : r % 2 ^ (n + 6) % 2 ^ n = r % 2 ^ n := by rw [Nat.pow_add, Nat.mod_mul_right_mod]
  rw [← this, hr, Nat.mul_comm, Nat.mul_add_mod, Nat.mod_eq_of_lt hlt]
 have e2 : r / 2 ^ n % 64 = r % 2 ^ (n + 6) / 2 ^ n := by rw [Nat.pow_add, Nat.mod_mul_right_div_self]
 rw [e2, hr, Nat.mul_comm, Nat.mul_add_div hp, Nat.div_eq_of_lt hlt]
 exact ⟨rfl, e1⟩
theorem i64_or8 (r x : Nat) (hr : r < 1000000) (hx : x < 256) : bits .or .i64 ((r : Int) * 256) x = ((r * 256 + x : Nat) : Int) := by
 have h : bits .or .i64 ((r : Int) * 256) x = (r : Int) * 256 + x := bits_join .i64 63 (by decide) (fun n a b => wrap_i64 (by omega) (by omega)) 8 ((r : Int) * 256) x (by omega) (by omega) (by omega) (by omega) (by omega) (by omega)
 rw [h]; omega
def textOf (l : List Bool) : List UInt8 := (chunks6 l).map alph
theorem textS_len (b : List UInt8) : (textS b).length ≤ 8 * b.length := by
 have := chunks6_len (bitsB b)
 rw [bitsB_len] at this
 simp only [textS, List.length_map]; exact this
theorem acc_len {acc t : List UInt8} {b : List UInt8} (h : acc ++ t = textS b) : acc.length ≤ 8 * b.length := by
 have h1 := congrArg List.length h
 have h2 := textS_len b
 rw [List.length_append] at h1
 omega
theorem textOf_nil : textOf [] = [] := by simp [textOf, chunks6_nil]
theorem textOf_six (p r : List Bool) (hp : 6 ≤ p.length) : textOf (p ++ r) = alph (num (p.take 6)) :: textOf (p.drop 6 ++ r) := by
 have h : p ++ r = p.take 6 ++ (p.drop 6 ++ r) := by rw [← List.append_assoc, List.take_append_drop]
 rw [h, textOf, chunks6_six _ _ (by simp; omega)]; rfl
theorem textOf_short (p : List Bool) (h0 : 0 < p.length) (h6 : p.length < 6) : textOf p = [alph (num p * 2 ^ (6 - p.length))] := by
 rw [textOf, chunks6_short p h0 h6]; rfl
theorem bitsB_drop {b : List UInt8} {u : Nat} {x : UInt8} (h : u < b.length) (hx : b[u] = x) : bitsB (b.drop u) = bits8 x ++ bitsB (b.drop (u + 1)) := by
 rw [List.drop_eq_getElem_cons h, hx, bitsB_cons]
theorem num_bits8 (x : UInt8) : num (bits8 x) = x.toNat := by
 rw [bits8, num_bitsN, Nat.mod_eq_of_lt x.toNat_lt]
theorem push8 (p : List Bool) (r : Nat) (x : UInt8) (h : r % 2 ^ p.length = num p) : (r * 256 + x.toNat) % 2 ^ (p ++ bits8 x).length = num (p ++ bits8 x) := by
 have hx := x.toNat_lt
 rw [num_append, num_bits8, List.length_append, bits8_len, ← h, Nat.add_comm p.length 8, Nat.pow_add, Nat.mod_mul, Nat.mul_comm r, Nat.mul_comm (r % 2 ^ p.length)]
 have e1 : (256 * r + x.toNat) % 2 ^ 8 = x.toNat := by omega
 have e2 : (256 * r + x.toNat) / 2 ^ 8 = r := by omega
 rw [e1, e2]; omega
theorem enc_long (b : List UInt8) (hl : 4096 < b.length) (hl2 : b.length ≤ 9223372036854775807) (k : Nat) :
  ACall Tryz.prog 63 [.slice none (b.map byteAV)] k [] (.tup [strAV [], .lit (.int .i64 2)]) [] := by
 have h2 : (4096 : Int) < b.length := by omega
 have hs : strAV [] = .lit (.string ⟨#[]⟩) := rfl
 refine Bd Tryz.func63 Tryz.ntmps63 fun σ N hp hpn hk hkn hfree => ?_
 refine Wk ?_
 exact W0
theorem enc_core (b : List UInt8) (hl : b.length ≤ 4096) (k : Nat) :
  ACall Tryz.prog 63 [.slice none (b.map byteAV)] k [] (.tup [strAV (textS b), .lit (.int .i64 0)]) [] := by
 have h2 : ¬ (4096 : Int) < b.length := by omega
 refine Bd Tryz.func63 Tryz.ntmps63 fun σ N hp hpn hk hkn hfree => ?_
 refine Wk ?_
 refine ALoop.nilrow 4 5 1 (by simp (disch := omega) [go_sem, *, -List.reduceReplicate]) ?_
 refine go_loop (aloop mixed (by kernel_rfl) (fun c => ∃ (u r rid : Nat) (p : List Bool) (acc : List UInt8), c.s 12 = .slice none (b.map byteAV) ∧ c.s 13 = .lit (.int .i64 b.length) ∧ c.s 14 = .lit (.int .i64 u) ∧ u ≤ b.length ∧ c.s 5 = .lit (.int .i64 r) ∧ c.s 6 = .lit (.int .i64 p.length) ∧ c.s 4 = .slice (some rid) (acc.map byteAV) ∧ c.σ rid = .row 5 1 acc.length ∧ N ≤ rid ∧ rid < c.n ∧ N ≤ c.n ∧ (∀ id, id < N → c.σ id = σ id) ∧ p.length < 6 ∧ p.length % 2 = 0 ∧ r < 64 ∧ r % 2 ^ p.length = num p ∧ acc ++ textOf (p ++ bitsB (b.drop u)) = textS b)
  (fun c => match c.s 14 with | .lit (.int _ m) => b.length - m.toNat | _ => 0) ⟨0, 0, _, [], [], by simp (disch := omega) [go_sem, *, -List.reduceReplicate], by simp (disch := omega) [go_sem, *, -List.reduceReplicate], by simp (disch := omega) [go_sem, *, -List.reduceReplicate], by omega, by simp (disch := omega) [go_sem, *, -List.reduceReplicate], by simp (disch := omega) [go_sem, *, -List.reduceReplicate], by simp (disch := omega) [go_sem, *, -List.reduceReplicate]; rfl, by simp (disch := omega) [go_sem, *, -List.reduceReplicate], by omega, by simp only; omega, by simp only; omega, (fun id hid => by simp (disch := omega) only [upd_ne]; try exact hlow id hid), by simp, by simp, by omega, by simp [num_nil], by simp [textOf, textS]⟩ ?_)
 rintro ⟨s, σ', n'⟩ ⟨u, r, rid, p, acc, h12, h13, h14, hu, h5, h6, h4, hr, hNr, hrn, hn', hlow, hp6, hp2, hr64, hrp, htot⟩
 simp only at h12 h13 h14 h5 h6 h4 hr hNr hrn hn' hlow
 by_cases hul : u = b.length
 ·subst hul
  rw [List.drop_length, bitsB_nil, List.append_nil] at htot
  have hal := acc_len htot
  have hcases : p.length = 0 ∨ p.length = 2 ∨ p.length = 4 := by omega
  rcases hcases with h | h | h
  ·have hp0 : p = [] := List.length_eq_zero_iff.1 h
   subst hp0
   rw [textOf_nil, List.append_nil] at htot
   subst htot
   clear h
   have hstr : strAV (textS b) = .lit (.string ⟨(textS b).toArray⟩) := rfl
   generalize textS b = acc at *
   refine Wk ?_
   exact W0
  ·have hrp2 : r * 16 % 64 = num p * 16 := by rw [← hrp, h]; simp only [Nat.reducePow]; omega
   rw [textOf_short p (by omega) (by omega), h] at htot
   simp only [Nat.reduceSub, Nat.reducePow] at htot
   rw [← hrp2] at htot
   have hn64 : r * 16 % 64 < 64 := Nat.mod_lt _ (by omega)
   have hget := alph_get _ hn64
   have hand := i64_and63 ((r : Int) * 16) (by omega) (by omega)
   rw [show ((r : Int) * 16 % 64) = ((r * 16 % 64 : Nat) : Int) by omega] at hand
   generalize r * 16 % 64 = V6 at *
   have hby : byteAV (alph V6) = .lit (.int .u8 (alph V6).toNat) := rfl
   generalize alph V6 = ch at *
   have h6' : s 6 = .lit (.int .i64 2) := by rw [h6, h]; rfl
   clear h6 hrp hrp2
   rw [← htot]
   have hstr : strAV (acc ++ [ch]) = .lit (.string ⟨(acc ++ [ch]).toArray⟩) := rfl
   clear htot
   refine Wk ?_
   exact W0
  ·have hrp2 : r * 4 % 64 = num p * 4 := by rw [← hrp, h]; simp only [Nat.reducePow]; omega
   rw [textOf_short p (by omega) (by omega), h] at htot
   simp only [Nat.reduceSub, Nat.reducePow] at htot
   rw [← hrp2] at htot
   have hn64 : r * 4 % 64 < 64 := Nat.mod_lt _ (by omega)
   have hget := alph_get _ hn64
   have hand := i64_and63 ((r : Int) * 4) (by omega) (by omega)
   rw [show ((r : Int) * 4 % 64) = ((r * 4 % 64 : Nat) : Int) by omega] at hand
   generalize r * 4 % 64 = V6 at *
   have hby : byteAV (alph V6) = .lit (.int .u8 (alph V6).toNat) := rfl
   generalize alph V6 = ch at *
   have h6' : s 6 = .lit (.int .i64 4) := by rw [h6, h]; rfl
   clear h6 hrp hrp2
   rw [← htot]
   have hstr : strAV (acc ++ [ch]) = .lit (.string ⟨(acc ++ [ch]).toArray⟩) := rfl
   clear htot
   refine Wk ?_
   exact W0
 ·have hu2 : u < b.length := by omega
  obtain ⟨x, hx⟩ : ∃ x, b[u] = x := ⟨_, rfl⟩
  rw [bitsB_drop hu2 hx, ← List.append_assoc] at htot
  have hpush := push8 p r x hrp
  have hx256 := x.toNat_lt
  have hor := i64_or8 r x.toNat (by omega) (by omega)
  have hbx : byteAV x = .lit (.int .u8 x.toNat) := rfl
  have hpl : (p ++ bits8 x).length = p.length + 8 := by rw [List.length_append, bits8_len]
  have hr2 : r * 256 + x.toNat < 16384 := by omega
  have hp5 : p.length ≤ 4 := by omega
  generalize p ++ bits8 x = q at htot hpush hpl
  generalize r * 256 + x.toNat = r2 at hor hpush hr2
  clear hrp
  refine Wk ?_
  refine go_loop (aloop mixed (by kernel_rfl) (fun c => ∃ (rid : Nat) (q : List Bool) (acc : List UInt8), c.s 12 = .slice none (b.map byteAV) ∧ c.s 13 = .lit (.int .i64 b.length) ∧ c.s 14 = .lit (.int .i64 u) ∧ c.s 5 = .lit (.int .i64 r2) ∧ c.s 6 = .lit (.int .i64 q.length) ∧ c.s 4 = .slice (some rid) (acc.map byteAV) ∧ c.σ rid = .row 5 1 acc.length ∧ N ≤ rid ∧ rid < c.n ∧ N ≤ c.n ∧ (∀ id, id < N → c.σ id = σ id) ∧ q.length ≤ 12 ∧ q.length % 2 = 0 ∧ r2 % 2 ^ q.length = num q ∧ acc ++ textOf (q ++ bitsB (b.drop (u + 1))) = textS b)
   (fun c => match c.s 6 with | .lit (.int _ m) => m.toNat | _ => 0) ⟨rid, q, acc, by simp (disch := omega) [go_sem, *, -List.reduceReplicate], by simp (disch := omega) [go_sem, *, -List.reduceReplicate], by simp (disch := omega) [go_sem, *, -List.reduceReplicate], by simp (disch := omega) [go_sem, *, -List.reduceReplicate], by simp (disch := omega) [go_sem, *, -List.reduceReplicate], by simp (disch := omega) [go_sem, *, -List.reduceReplicate], by simp (disch := omega) [go_sem, *, -List.reduceReplicate], by omega, by simp only; omega, by simp only; omega, (fun id hid => by simp (disch := omega) only; try exact hlow id hid), by omega, by omega, hpush, htot⟩ ?_)
  clear htot hpush hlow hr hor hbx hpl hp5 hp2 hp6 h4 h6 h5
  rintro ⟨s, σ', n'⟩ ⟨rid, q, acc, h12, h13, h14, h5, h6, h4, hr, hNr, hrn, hn', hlow, hq12, hq2, hrq, htot⟩
  simp only at h12 h13 h14 h5 h6 h4 hr hNr hrn hn' hlow
  by_cases hq6 : q.length < 6
  ·have hq6i : (q.length : Int) < 6 := by omega
   have hand := i64_and63 r2 (by omega) (by omega)
   have hand2 : ((r2 : Int) % 64) = ((r2 % 64 : Nat) : Int) := by omega
   have hmod : r2 % 64 % 2 ^ q.length = num q := by
    rw [← hrq]
    have : q.length = 0 ∨ q.length = 2 ∨ q.length = 4 := by omega
    rcases this with h | h | h <;> rw [h] <;> omega
   have hr64' : r2 % 64 < 64 := by omega
   rw [hand2] at hand
   clear hand2 hrq
   generalize r2 % 64 = r3 at *
   refine Wk ?_
   refine ⟨⟨u + 1, r3, rid, q, acc, by simp (disch := omega) [go_sem, *, -List.reduceReplicate], by simp (disch := omega) [go_sem, *, -List.reduceReplicate], by simp (disch := omega) [go_sem, *, -List.reduceReplicate], by omega, by simp (disch := omega) [go_sem, *, -List.reduceReplicate], by simp (disch := omega) [go_sem, *, -List.reduceReplicate], by simp (disch := omega) [go_sem, *, -List.reduceReplicate], by simp (disch := omega) [go_sem, *, -List.reduceReplicate], by omega, by simp only; omega, by simp only; omega, (fun id hid => by simp (disch := omega) only; try exact hlow id hid), hq6, hq2, hr64', hmod, htot⟩, ?_⟩
   simp (disch := omega) [go_sem, *, -List.reduceReplicate]
   omega
  ·have hal := acc_len htot
   have hsix := textOf_six q (bitsB (b.drop (u + 1))) (by omega)
   rw [hsix] at htot
   have hcases : q.length = 6 ∨ q.length = 8 ∨ q.length = 10 ∨ q.length = 12 := by omega
   clear hsix hq6
   rcases hcases with h | h | h | h
   ·rw [h] at hrq
    have htk := take_num q r2 0 h hrq
    have hql : (q.drop 6).length = 0 := by rw [List.length_drop, h]
    have hdr : r2 % 2 ^ (q.drop 6).length = num (q.drop 6) := by rw [hql]; exact htk.2
    have htk1 := htk.1
    simp only [Nat.reducePow, Nat.div_one] at htk1
    rw [← htk1] at htot
    have hn64 : (r2) % 64 < 64 := Nat.mod_lt _ (by omega)
    have hv : (r2 : Int).fdiv 1 = ((r2 : Nat) : Int) := by rw [Int.fdiv_eq_ediv_of_nonneg _ (by omega)]; omega
    have hle : r2 < 16384 := by omega
    have hget := alph_get _ hn64
    generalize r2 = V at *
    have hand := i64_and63 (V : Int) (by omega) (by omega)
    rw [show ((V : Int) % 64) = ((V % 64 : Nat) : Int) by omega] at hand
    generalize V % 64 = V6 at *
    have hby : byteAV (alph V6) = .lit (.int .u8 (alph V6).toNat) := rfl
    generalize alph V6 = ch at *
    generalize q.drop 6 = q' at *
    clear htk htk1 hrq
    have h6' : s 6 = .lit (.int .i64 6) := by rw [h6, h]; rfl
    clear h6
    refine Wk ?_
    refine ⟨⟨rid, q', acc ++ [ch], by simp (disch := omega) [go_sem, *, -List.reduceReplicate], by simp (disch := omega) [go_sem, *, -List.reduceReplicate], by simp (disch := omega) [go_sem, *, -List.reduceReplicate], by simp (disch := omega) [go_sem, *, -List.reduceReplicate], by simp (disch := omega) [go_sem, *, -List.reduceReplicate], by simp (disch := omega) [go_sem, *, -List.reduceReplicate], by simp (disch := omega) [go_sem, *, -List.reduceReplicate], by omega, by simp only; omega, by simp only; omega, (fun id hid => by simp (disch := omega) only [upd_ne]; try exact hlow id hid), by omega, by omega, hdr, by rw [List.append_assoc]; exact htot⟩, ?_⟩
    simp (disch := omega) [go_sem, *, -List.reduceReplicate]
   ·rw [h] at hrq
    have htk := take_num q r2 2 h hrq
    have hql : (q.drop 6).length = 2 := by rw [List.length_drop, h]
    have hdr : r2 % 2 ^ (q.drop 6).length = num (q.drop 6) := by rw [hql]; exact htk.2
    have htk1 := htk.1
    simp only [Nat.reducePow] at htk1
    rw [← htk1] at htot
    have hn64 : (r2 / 4) % 64 < 64 := Nat.mod_lt _ (by omega)
    have hv : (r2 : Int).fdiv 4 = ((r2 / 4 : Nat) : Int) := by rw [Int.fdiv_eq_ediv_of_nonneg _ (by omega)]; omega
    have hle : r2 / 4 < 16384 := by omega
    have hget := alph_get _ hn64
    generalize r2 / 4 = V at *
    have hand := i64_and63 (V : Int) (by omega) (by omega)
    rw [show ((V : Int) % 64) = ((V % 64 : Nat) : Int) by omega] at hand
    generalize V % 64 = V6 at *
    have hby : byteAV (alph V6) = .lit (.int .u8 (alph V6).toNat) := rfl
    generalize alph V6 = ch at *
    generalize q.drop 6 = q' at *
    clear htk htk1 hrq
    have h6' : s 6 = .lit (.int .i64 8) := by rw [h6, h]; rfl
    clear h6
    refine Wk ?_
    refine ⟨⟨rid, q', acc ++ [ch], by simp (disch := omega) [go_sem, *, -List.reduceReplicate], by simp (disch := omega) [go_sem, *, -List.reduceReplicate], by simp (disch := omega) [go_sem, *, -List.reduceReplicate], by simp (disch := omega) [go_sem, *, -List.reduceReplicate], by simp (disch := omega) [go_sem, *, -List.reduceReplicate], by simp (disch := omega) [go_sem, *, -List.reduceReplicate], by simp (disch := omega) [go_sem, *, -List.reduceReplicate], by omega, by simp only; omega, by simp only; omega, (fun id hid => by simp (disch := omega) only [upd_ne]; try exact hlow id hid), by omega, by omega, hdr, by rw [List.append_assoc]; exact htot⟩, ?_⟩
    simp (disch := omega) [go_sem, *, -List.reduceReplicate]
   ·rw [h] at hrq
    have htk := take_num q r2 4 h hrq
    have hql : (q.drop 6).length = 4 := by rw [List.length_drop, h]
    have hdr : r2 % 2 ^ (q.drop 6).length = num (q.drop 6) := by rw [hql]; exact htk.2
    have htk1 := htk.1
    simp only [Nat.reducePow] at htk1
    rw [← htk1] at htot
    have hn64 : (r2 / 16) % 64 < 64 := Nat.mod_lt _ (by omega)
    have hv : (r2 : Int).fdiv 16 = ((r2 / 16 : Nat) : Int) := by rw [Int.fdiv_eq_ediv_of_nonneg _ (by omega)]; omega
    have hle : r2 / 16 < 16384 := by omega
    have hget := alph_get _ hn64
    generalize r2 / 16 = V at *
    have hand := i64_and63 (V : Int) (by omega) (by omega)
    rw [show ((V : Int) % 64) = ((V % 64 : Nat) : Int) by omega] at hand
    generalize V % 64 = V6 at *
    have hby : byteAV (alph V6) = .lit (.int .u8 (alph V6).toNat) := rfl
    generalize alph V6 = ch at *
    generalize q.drop 6 = q' at *
    clear htk htk1 hrq
    have h6' : s 6 = .lit (.int .i64 10) := by rw [h6, h]; rfl
    clear h6
    refine Wk ?_
    refine ⟨⟨rid, q', acc ++ [ch], by simp (disch := omega) [go_sem, *, -List.reduceReplicate], by simp (disch := omega) [go_sem, *, -List.reduceReplicate], by simp (disch := omega) [go_sem, *, -List.reduceReplicate], by simp (disch := omega) [go_sem, *, -List.reduceReplicate], by simp (disch := omega) [go_sem, *, -List.reduceReplicate], by simp (disch := omega) [go_sem, *, -List.reduceReplicate], by simp (disch := omega) [go_sem, *, -List.reduceReplicate], by omega, by simp only; omega, by simp only; omega, (fun id hid => by simp (disch := omega) only [upd_ne]; try exact hlow id hid), by omega, by omega, hdr, by rw [List.append_assoc]; exact htot⟩, ?_⟩
    simp (disch := omega) [go_sem, *, -List.reduceReplicate]
   ·rw [h] at hrq
    have htk := take_num q r2 6 h hrq
    have hql : (q.drop 6).length = 6 := by rw [List.length_drop, h]
    have hdr : r2 % 2 ^ (q.drop 6).length = num (q.drop 6) := by rw [hql]; exact htk.2
    have htk1 := htk.1
    simp only [Nat.reducePow] at htk1
    rw [← htk1] at htot
    have hn64 : (r2 / 64) % 64 < 64 := Nat.mod_lt _ (by omega)
    have hv : (r2 : Int).fdiv 64 = ((r2 / 64 : Nat) : Int) := by rw [Int.fdiv_eq_ediv_of_nonneg _ (by omega)]; omega
    have hle : r2 / 64 < 16384 := by omega
    have hget := alph_get _ hn64
    generalize r2 / 64 = V at *
    have hand := i64_and63 (V : Int) (by omega) (by omega)
    rw [show ((V : Int) % 64) = ((V % 64 : Nat) : Int) by omega] at hand
    generalize V % 64 = V6 at *
    have hby : byteAV (alph V6) = .lit (.int .u8 (alph V6).toNat) := rfl
    generalize alph V6 = ch at *
    generalize q.drop 6 = q' at *
    clear htk htk1 hrq
    have h6' : s 6 = .lit (.int .i64 12) := by rw [h6, h]; rfl
    clear h6
    refine Wk ?_
    refine ⟨⟨rid, q', acc ++ [ch], by simp (disch := omega) [go_sem, *, -List.reduceReplicate], by simp (disch := omega) [go_sem, *, -List.reduceReplicate], by simp (disch := omega) [go_sem, *, -List.reduceReplicate], by simp (disch := omega) [go_sem, *, -List.reduceReplicate], by simp (disch := omega) [go_sem, *, -List.reduceReplicate], by simp (disch := omega) [go_sem, *, -List.reduceReplicate], by simp (disch := omega) [go_sem, *, -List.reduceReplicate], by omega, by simp only; omega, by simp only; omega, (fun id hid => by simp (disch := omega) only [upd_ne]; try exact hlow id hid), by omega, by omega, hdr, by rw [List.append_assoc]; exact htot⟩, ?_⟩
    simp (disch := omega) [go_sem, *, -List.reduceReplicate]

def padded (b : List UInt8) (at_ : Nat) : List Bool := (bitsB b).drop at_ ++ List.replicate 6 false
theorem padded_take6 (b : List UInt8) (at_ : Nat) (h : at_ < 8 * b.length) : textOf ((bitsB b).drop at_) = alph (num ((padded b at_).take 6)) :: textOf ((bitsB b).drop (at_ + 6)) := by
 have hl := bitsB_len b
 have hd : ((bitsB b).drop at_).length = 8 * b.length - at_ := by rw [List.length_drop, hl]
 have hne : (bitsB b).drop at_ ≠ [] := by intro hh; rw [hh] at hd; simp at hd; omega
 rw [textOf, chunks6, dif_neg hne, List.map_cons, List.drop_drop, textOf]
 congr 3
 rw [padded, List.take_append, List.take_replicate]
 congr 2
 omega
theorem padded_succ (b : List UInt8) (at_ t : Nat) (_ht : t < 6) (c : Bool) (hc : (padded b at_)[t]? = some c) : num ((padded b at_).take (t + 1)) = 2 * num ((padded b at_).take t) + c.toNat := by
 rw [List.take_add_one, hc]; exact num_snoc _ _
theorem padded_in (b : List UInt8) (at_ t : Nat) (x : UInt8) (h : at_ + t < 8 * b.length) (hx : b[(at_ + t) / 8]? = some x) : (padded b at_)[t]? = some (x.toNat / 2 ^ (7 - (at_ + t) % 8) % 2 == 1) := by
 have hl := bitsB_len b
 rw [padded, List.getElem?_append_left (by rw [List.length_drop, hl]; omega), List.getElem?_drop, bitsB_get b _ x hx]
theorem padded_out (b : List UInt8) (at_ t : Nat) (h : ¬ at_ + t < 8 * b.length) (ht : t < 6) : (padded b at_)[t]? = some false := by
 have hl := bitsB_len b
 rw [padded, List.getElem?_append_right (by rw [List.length_drop, hl]; omega), List.length_drop, hl, List.getElem?_replicate, if_pos (by omega)]
theorem text_long (b : List UInt8) (hl : 4096 < b.length) (hl2 : b.length ≤ 9223372036854775807) (k : Nat) :
  ACall Tryz.prog 48 [.slice none (b.map byteAV)] k [] (.tup [strAV [], .lit (.int .i64 2)]) [] := by
 have h2 : (4096 : Int) < b.length := by omega
 have hs : strAV [] = .lit (.string ⟨#[]⟩) := rfl
 refine Bd Tryz.func48 Tryz.ntmps48 fun σ N hp hpn hk hkn hfree => ?_
 refine Wk ?_
 exact W0
set_option maxHeartbeats 4000000 in
theorem text_core (b : List UInt8) (hl : b.length ≤ 4096) (k : Nat) :
  ACall Tryz.prog 48 [.slice none (b.map byteAV)] k [] (.tup [strAV (textS b), .lit (.int .i64 0)]) [] := by
 have h2 : ¬ (4096 : Int) < b.length := by omega
 refine Bd Tryz.func48 Tryz.ntmps48 fun σ N hp hpn hk hkn hfree => ?_
 refine Wk ?_
 refine ALoop.nilrow 4 5 1 (by simp (disch := omega) [go_sem, *, -List.reduceReplicate]) ?_
 refine go_loop (aloop mixed (by kernel_rfl) (fun c => ∃ (at_ rid : Nat) (acc : List UInt8), c.s 0 = .slice none (b.map byteAV) ∧ c.s 5 = .lit (.int .i64 at_) ∧ at_ ≤ 8 * b.length + 6 ∧ c.s 4 = .slice (some rid) (acc.map byteAV) ∧ c.σ rid = .row 5 1 acc.length ∧ N ≤ rid ∧ rid < c.n ∧ N ≤ c.n ∧ (∀ id, id < N → c.σ id = σ id) ∧ acc ++ textOf ((bitsB b).drop at_) = textS b)
  (fun c => match c.s 5 with | .lit (.int _ m) => 8 * b.length + 6 - m.toNat | _ => 0) ⟨0, _, [], by simp (disch := omega) [go_sem, *, -List.reduceReplicate], by simp (disch := omega) [go_sem, *, -List.reduceReplicate], by omega, by simp (disch := omega) [go_sem, *, -List.reduceReplicate]; rfl, by simp (disch := omega) [go_sem, *, -List.reduceReplicate], by omega, by simp only; omega, by simp only; omega, (fun id hid => by simp (disch := omega) only [upd_ne]; try exact hlow id hid), by simp [textOf, textS]⟩ ?_)
 rintro ⟨s, σ', n'⟩ ⟨at_, rid, acc, h0, h5, ha, h4, hr, hNr, hrn, hn', hlow, htot⟩
 simp only at h0 h5 h4 hr hNr hrn hn' hlow
 have hal := acc_len htot
 by_cases hat : at_ < 8 * b.length
 ·have hati : (at_ : Int) < 8 * (b.length : Int) := by omega
  rw [padded_take6 b at_ hat] at htot
  refine Wk ?_
  refine go_loop (aloop mixed (by kernel_rfl) (fun c => ∃ (rid t i v : Nat), c.s 0 = .slice none (b.map byteAV) ∧ c.s 5 = .lit (.int .i64 at_) ∧ c.s 7 = .lit (.int .i64 i) ∧ c.s 6 = .lit (.int .i64 v) ∧ at_ + t = i ∧ t ≤ 6 ∧ v = num ((padded b at_).take t) ∧ c.s 4 = .slice (some rid) (acc.map byteAV) ∧ c.σ rid = .row 5 1 acc.length ∧ N ≤ rid ∧ rid < c.n ∧ N ≤ c.n ∧ (∀ id, id < N → c.σ id = σ id))
   (fun c => match c.s 7 with | .lit (.int _ m) => at_ + 6 - m.toNat | _ => 0) ⟨rid, 0, at_, 0, by simp (disch := omega) [go_sem, *, -List.reduceReplicate], by simp (disch := omega) [go_sem, *, -List.reduceReplicate], by simp (disch := omega) [go_sem, *, -List.reduceReplicate], by simp (disch := omega) [go_sem, *, -List.reduceReplicate], by omega, by omega, by rfl, by simp (disch := omega) [go_sem, *, -List.reduceReplicate], by simp (disch := omega) [go_sem, *, -List.reduceReplicate], by omega, by simp only; omega, by simp only; omega, (fun id hid => by simp (disch := omega) only; try exact hlow id hid)⟩ ?_)
  clear hlow hr h4 h0
  rintro ⟨s, σ', n'⟩ ⟨rid, t, i, v, h0, h5, h7, h6, hit, ht6, hv, h4, hr, hNr, hrn, hn', hlow⟩
  simp only at h0 h5 h7 h6 h4 hr hNr hrn hn' hlow
  have hvlt : v < 64 := by
   have h1 := num_lt ((padded b at_).take t)
   rw [← hv, List.length_take] at h1
   have h2 : 2 ^ min t (padded b at_).length ≤ 2 ^ 6 := Nat.pow_le_pow_right (by omega) (by omega)
   omega
  by_cases ht : t = 6
  ·subst ht
   rw [← hv] at htot
   have hget := alph_get v hvlt
   have hby : byteAV (alph v) = .lit (.int .u8 (alph v).toNat) := rfl
   generalize alph v = ch at *
   have hni : ¬ (i : Int) < (at_ : Int) + 6 := by omega
   have hiti : (at_ : Int) + 6 = i := by omega
   clear hv
   refine Wk ?_
   refine ⟨⟨at_ + 6, rid, acc ++ [ch], by simp (disch := omega) [go_sem, *, -List.reduceReplicate], by simp (disch := omega) [go_sem, *, -List.reduceReplicate], by omega, by simp (disch := omega) [go_sem, *, -List.reduceReplicate], by simp (disch := omega) [go_sem, *, -List.reduceReplicate], by omega, by simp only; omega, by simp only; omega, (fun id hid => by simp (disch := omega) only [upd_ne]; try exact hlow id hid), by rw [List.append_assoc]; exact htot⟩, ?_⟩
   simp (disch := omega) [go_sem, *, -List.reduceReplicate]
   omega
  ·have hii : (i : Int) < (at_ : Int) + 6 := by omega
   clear htot
   by_cases hib : i < 8 * b.length
   ·have hibi : (i : Int) < 8 * (b.length : Int) := by omega
    have hi8 : i / 8 < b.length := by omega
    have htd : (i : Int).tdiv 8 = ((i / 8 : Nat) : Int) := by rw [Int.tdiv_eq_ediv_of_nonneg (by omega)]; omega
    obtain ⟨x, hx⟩ : ∃ x, b[i / 8] = x := ⟨_, rfl⟩
    have hxx : b[(at_ + t) / 8]? = some x := by rw [hit, List.getElem?_eq_getElem hi8, hx]
    have hbx : byteAV x = .lit (.int .u8 x.toNat) := rfl
    generalize hj : i / 8 = j at *
    have hmc : i % 8 = 0 ∨ i % 8 = 1 ∨ i % 8 = 2 ∨ i % 8 = 3 ∨ i % 8 = 4 ∨ i % 8 = 5 ∨ i % 8 = 6 ∨ i % 8 = 7 := by omega
    rcases hmc with hm | hm | hm | hm | hm | hm | hm | hm
    ·have hx2 : i % 8 = 0 := hm
     have hc := padded_in b at_ t x (by omega) hxx
     rw [hit, hx2] at hc
     simp only [Nat.reduceSub, Nat.reducePow] at hc
     have hs := padded_succ b at_ t (by omega) _ hc
     rw [beq1_toNat _ (Nat.mod_lt _ (by omega)), ← hv] at hs
     have hxl := x.toNat_lt
     have htm : (i : Int).tmod 8 = 0 := by rw [Int.tmod_eq_emod_of_nonneg (by omega)]; omega
     have hfd : (x.toNat : Int).fdiv 128 = ((x.toNat / 128 : Nat) : Int) := by rw [Int.fdiv_eq_ediv_of_nonneg _ (by omega)]; omega
     have hble : x.toNat / 128 < 256 := by omega
     generalize x.toNat / 128 = w at hs hfd hble
     have htm2 : (w : Int).tmod 2 = ((w % 2 : Nat) : Int) := by rw [Int.tmod_eq_emod_of_nonneg (by omega)]; omega
     have hw2 : w % 2 < 2 := Nat.mod_lt _ (by omega)
     generalize w % 2 = bt at hs htm2 hw2
     clear hc hm hx2 hv hxx
     refine Wk ?_
     refine ⟨⟨rid, t + 1, i + 1, 2 * v + bt, by simp (disch := omega) [go_sem, *, -List.reduceReplicate], by simp (disch := omega) [go_sem, *, -List.reduceReplicate], by simp (disch := omega) [go_sem, *, -List.reduceReplicate], by simp (disch := omega) [go_sem, *, -List.reduceReplicate], by omega, by omega, by rw [hs], by simp (disch := omega) [go_sem, *, -List.reduceReplicate], by simp (disch := omega) [go_sem, *, -List.reduceReplicate], hNr, by simp only; omega, by simp only; omega, (fun id hid => by simp (disch := omega) only; try exact hlow id hid)⟩, ?_⟩
     simp (disch := omega) [go_sem, *, -List.reduceReplicate]
     omega
    ·have hx2 : i % 8 = 1 := hm
     have hc := padded_in b at_ t x (by omega) hxx
     rw [hit, hx2] at hc
     simp only [Nat.reduceSub, Nat.reducePow] at hc
     have hs := padded_succ b at_ t (by omega) _ hc
     rw [beq1_toNat _ (Nat.mod_lt _ (by omega)), ← hv] at hs
     have hxl := x.toNat_lt
     have htm : (i : Int).tmod 8 = 1 := by rw [Int.tmod_eq_emod_of_nonneg (by omega)]; omega
     have hfd : (x.toNat : Int).fdiv 64 = ((x.toNat / 64 : Nat) : Int) := by rw [Int.fdiv_eq_ediv_of_nonneg _ (by omega)]; omega
     have hble : x.toNat / 64 < 256 := by omega
     generalize x.toNat / 64 = w at hs hfd hble
     have htm2 : (w : Int).tmod 2 = ((w % 2 : Nat) : Int) := by rw [Int.tmod_eq_emod_of_nonneg (by omega)]; omega
     have hw2 : w % 2 < 2 := Nat.mod_lt _ (by omega)
     generalize w % 2 = bt at hs htm2 hw2
     clear hc hm hx2 hv hxx
     refine Wk ?_
     refine ⟨⟨rid, t + 1, i + 1, 2 * v + bt, by simp (disch := omega) [go_sem, *, -List.reduceReplicate], by simp (disch := omega) [go_sem, *, -List.reduceReplicate], by simp (disch := omega) [go_sem, *, -List.reduceReplicate], by simp (disch := omega) [go_sem, *, -List.reduceReplicate], by omega, by omega, by rw [hs], by simp (disch := omega) [go_sem, *, -List.reduceReplicate], by simp (disch := omega) [go_sem, *, -List.reduceReplicate], hNr, by simp only; omega, by simp only; omega, (fun id hid => by simp (disch := omega) only; try exact hlow id hid)⟩, ?_⟩
     simp (disch := omega) [go_sem, *, -List.reduceReplicate]
     omega
    ·have hx2 : i % 8 = 2 := hm
     have hc := padded_in b at_ t x (by omega) hxx
     rw [hit, hx2] at hc
     simp only [Nat.reduceSub, Nat.reducePow] at hc
     have hs := padded_succ b at_ t (by omega) _ hc
     rw [beq1_toNat _ (Nat.mod_lt _ (by omega)), ← hv] at hs
     have hxl := x.toNat_lt
     have htm : (i : Int).tmod 8 = 2 := by rw [Int.tmod_eq_emod_of_nonneg (by omega)]; omega
     have hfd : (x.toNat : Int).fdiv 32 = ((x.toNat / 32 : Nat) : Int) := by rw [Int.fdiv_eq_ediv_of_nonneg _ (by omega)]; omega
     have hble : x.toNat / 32 < 256 := by omega
     generalize x.toNat / 32 = w at hs hfd hble
     have htm2 : (w : Int).tmod 2 = ((w % 2 : Nat) : Int) := by rw [Int.tmod_eq_emod_of_nonneg (by omega)]; omega
     have hw2 : w % 2 < 2 := Nat.mod_lt _ (by omega)
     generalize w % 2 = bt at hs htm2 hw2
     clear hc hm hx2 hv hxx
     refine Wk ?_
     refine ⟨⟨rid, t + 1, i + 1, 2 * v + bt, by simp (disch := omega) [go_sem, *, -List.reduceReplicate], by simp (disch := omega) [go_sem, *, -List.reduceReplicate], by simp (disch := omega) [go_sem, *, -List.reduceReplicate], by simp (disch := omega) [go_sem, *, -List.reduceReplicate], by omega, by omega, by rw [hs], by simp (disch := omega) [go_sem, *, -List.reduceReplicate], by simp (disch := omega) [go_sem, *, -List.reduceReplicate], hNr, by simp only; omega, by simp only; omega, (fun id hid => by simp (disch := omega) only; try exact hlow id hid)⟩, ?_⟩
     simp (disch := omega) [go_sem, *, -List.reduceReplicate]
     omega
    ·have hx2 : i % 8 = 3 := hm
     have hc := padded_in b at_ t x (by omega) hxx
     rw [hit, hx2] at hc
     simp only [Nat.reduceSub, Nat.reducePow] at hc
     have hs := padded_succ b at_ t (by omega) _ hc
     rw [beq1_toNat _ (Nat.mod_lt _ (by omega)), ← hv] at hs
     have hxl := x.toNat_lt
     have htm : (i : Int).tmod 8 = 3 := by rw [Int.tmod_eq_emod_of_nonneg (by omega)]; omega
     have hfd : (x.toNat : Int).fdiv 16 = ((x.toNat / 16 : Nat) : Int) := by rw [Int.fdiv_eq_ediv_of_nonneg _ (by omega)]; omega
     have hble : x.toNat / 16 < 256 := by omega
     generalize x.toNat / 16 = w at hs hfd hble
     have htm2 : (w : Int).tmod 2 = ((w % 2 : Nat) : Int) := by rw [Int.tmod_eq_emod_of_nonneg (by omega)]; omega
     have hw2 : w % 2 < 2 := Nat.mod_lt _ (by omega)
     generalize w % 2 = bt at hs htm2 hw2
     clear hc hm hx2 hv hxx
     refine Wk ?_
     refine ⟨⟨rid, t + 1, i + 1, 2 * v + bt, by simp (disch := omega) [go_sem, *, -List.reduceReplicate], by simp (disch := omega) [go_sem, *, -List.reduceReplicate], by simp (disch := omega) [go_sem, *, -List.reduceReplicate], by simp (disch := omega) [go_sem, *, -List.reduceReplicate], by omega, by omega, by rw [hs], by simp (disch := omega) [go_sem, *, -List.reduceReplicate], by simp (disch := omega) [go_sem, *, -List.reduceReplicate], hNr, by simp only; omega, by simp only; omega, (fun id hid => by simp (disch := omega) only; try exact hlow id hid)⟩, ?_⟩
     simp (disch := omega) [go_sem, *, -List.reduceReplicate]
     omega
    ·have hx2 : i % 8 = 4 := hm
     have hc := padded_in b at_ t x (by omega) hxx
     rw [hit, hx2] at hc
     simp only [Nat.reduceSub, Nat.reducePow] at hc
     have hs := padded_succ b at_ t (by omega) _ hc
     rw [beq1_toNat _ (Nat.mod_lt _ (by omega)), ← hv] at hs
     have hxl := x.toNat_lt
     have htm : (i : Int).tmod 8 = 4 := by rw [Int.tmod_eq_emod_of_nonneg (by omega)]; omega
     have hfd : (x.toNat : Int).fdiv 8 = ((x.toNat / 8 : Nat) : Int) := by rw [Int.fdiv_eq_ediv_of_nonneg _ (by omega)]; omega
     have hble : x.toNat / 8 < 256 := by omega
     generalize x.toNat / 8 = w at hs hfd hble
     have htm2 : (w : Int).tmod 2 = ((w % 2 : Nat) : Int) := by rw [Int.tmod_eq_emod_of_nonneg (by omega)]; omega
     have hw2 : w % 2 < 2 := Nat.mod_lt _ (by omega)
     generalize w % 2 = bt at hs htm2 hw2
     clear hc hm hx2 hv hxx
     refine Wk ?_
     refine ⟨⟨rid, t + 1, i + 1, 2 * v + bt, by simp (disch := omega) [go_sem, *, -List.reduceReplicate], by simp (disch := omega) [go_sem, *, -List.reduceReplicate], by simp (disch := omega) [go_sem, *, -List.reduceReplicate], by simp (disch := omega) [go_sem, *, -List.reduceReplicate], by omega, by omega, by rw [hs], by simp (disch := omega) [go_sem, *, -List.reduceReplicate], by simp (disch := omega) [go_sem, *, -List.reduceReplicate], hNr, by simp only; omega, by simp only; omega, (fun id hid => by simp (disch := omega) only; try exact hlow id hid)⟩, ?_⟩
     simp (disch := omega) [go_sem, *, -List.reduceReplicate]
     omega
    ·have hx2 : i % 8 = 5 := hm
     have hc := padded_in b at_ t x (by omega) hxx
     rw [hit, hx2] at hc
     simp only [Nat.reduceSub, Nat.reducePow] at hc
     have hs := padded_succ b at_ t (by omega) _ hc
     rw [beq1_toNat _ (Nat.mod_lt _ (by omega)), ← hv] at hs
     have hxl := x.toNat_lt
     have htm : (i : Int).tmod 8 = 5 := by rw [Int.tmod_eq_emod_of_nonneg (by omega)]; omega
     have hfd : (x.toNat : Int).fdiv 4 = ((x.toNat / 4 : Nat) : Int) := by rw [Int.fdiv_eq_ediv_of_nonneg _ (by omega)]; omega
     have hble : x.toNat / 4 < 256 := by omega
     generalize x.toNat / 4 = w at hs hfd hble
     have htm2 : (w : Int).tmod 2 = ((w % 2 : Nat) : Int) := by rw [Int.tmod_eq_emod_of_nonneg (by omega)]; omega
     have hw2 : w % 2 < 2 := Nat.mod_lt _ (by omega)
     generalize w % 2 = bt at hs htm2 hw2
     clear hc hm hx2 hv hxx
     refine Wk ?_
     refine ⟨⟨rid, t + 1, i + 1, 2 * v + bt, by simp (disch := omega) [go_sem, *, -List.reduceReplicate], by simp (disch := omega) [go_sem, *, -List.reduceReplicate], by simp (disch := omega) [go_sem, *, -List.reduceReplicate], by simp (disch := omega) [go_sem, *, -List.reduceReplicate], by omega, by omega, by rw [hs], by simp (disch := omega) [go_sem, *, -List.reduceReplicate], by simp (disch := omega) [go_sem, *, -List.reduceReplicate], hNr, by simp only; omega, by simp only; omega, (fun id hid => by simp (disch := omega) only; try exact hlow id hid)⟩, ?_⟩
     simp (disch := omega) [go_sem, *, -List.reduceReplicate]
     omega
    ·have hx2 : i % 8 = 6 := hm
     have hc := padded_in b at_ t x (by omega) hxx
     rw [hit, hx2] at hc
     simp only [Nat.reduceSub, Nat.reducePow] at hc
     have hs := padded_succ b at_ t (by omega) _ hc
     rw [beq1_toNat _ (Nat.mod_lt _ (by omega)), ← hv] at hs
     have hxl := x.toNat_lt
     have htm : (i : Int).tmod 8 = 6 := by rw [Int.tmod_eq_emod_of_nonneg (by omega)]; omega
     have hfd : (x.toNat : Int).fdiv 2 = ((x.toNat / 2 : Nat) : Int) := by rw [Int.fdiv_eq_ediv_of_nonneg _ (by omega)]; omega
     have hble : x.toNat / 2 < 256 := by omega
     generalize x.toNat / 2 = w at hs hfd hble
     have htm2 : (w : Int).tmod 2 = ((w % 2 : Nat) : Int) := by rw [Int.tmod_eq_emod_of_nonneg (by omega)]; omega
     have hw2 : w % 2 < 2 := Nat.mod_lt _ (by omega)
     generalize w % 2 = bt at hs htm2 hw2
     clear hc hm hx2 hv hxx
     refine Wk ?_
     refine ⟨⟨rid, t + 1, i + 1, 2 * v + bt, by simp (disch := omega) [go_sem, *, -List.reduceReplicate], by simp (disch := omega) [go_sem, *, -List.reduceReplicate], by simp (disch := omega) [go_sem, *, -List.reduceReplicate], by simp (disch := omega) [go_sem, *, -List.reduceReplicate], by omega, by omega, by rw [hs], by simp (disch := omega) [go_sem, *, -List.reduceReplicate], by simp (disch := omega) [go_sem, *, -List.reduceReplicate], hNr, by simp only; omega, by simp only; omega, (fun id hid => by simp (disch := omega) only; try exact hlow id hid)⟩, ?_⟩
     simp (disch := omega) [go_sem, *, -List.reduceReplicate]
     omega
    ·have hx2 : i % 8 = 7 := hm
     have hc := padded_in b at_ t x (by omega) hxx
     rw [hit, hx2] at hc
     simp only [Nat.reduceSub, Nat.reducePow, Nat.div_one] at hc
     have hs := padded_succ b at_ t (by omega) _ hc
     rw [beq1_toNat _ (Nat.mod_lt _ (by omega)), ← hv] at hs
     have hxl := x.toNat_lt
     have htm : (i : Int).tmod 8 = 7 := by rw [Int.tmod_eq_emod_of_nonneg (by omega)]; omega
     have hfd : (x.toNat : Int).fdiv 1 = ((x.toNat : Nat) : Int) := by rw [Int.fdiv_eq_ediv_of_nonneg _ (by omega)]; omega
     have hble : x.toNat < 256 := by omega
     generalize x.toNat = w at hs hfd hble hbx
     have htm2 : (w : Int).tmod 2 = ((w % 2 : Nat) : Int) := by rw [Int.tmod_eq_emod_of_nonneg (by omega)]; omega
     have hw2 : w % 2 < 2 := Nat.mod_lt _ (by omega)
     generalize w % 2 = bt at hs htm2 hw2
     clear hc hm hx2 hv hxx
     refine Wk ?_
     refine ⟨⟨rid, t + 1, i + 1, 2 * v + bt, by simp (disch := omega) [go_sem, *, -List.reduceReplicate], by simp (disch := omega) [go_sem, *, -List.reduceReplicate], by simp (disch := omega) [go_sem, *, -List.reduceReplicate], by simp (disch := omega) [go_sem, *, -List.reduceReplicate], by omega, by omega, by rw [hs], by simp (disch := omega) [go_sem, *, -List.reduceReplicate], by simp (disch := omega) [go_sem, *, -List.reduceReplicate], hNr, by simp only; omega, by simp only; omega, (fun id hid => by simp (disch := omega) only; try exact hlow id hid)⟩, ?_⟩
     simp (disch := omega) [go_sem, *, -List.reduceReplicate]
     omega
   ·have hibi : ¬ (i : Int) < 8 * (b.length : Int) := by omega
    have hs := padded_succ b at_ t (by omega) _ (padded_out b at_ t (by omega) (by omega))
    rw [← hv, Bool.toNat_false, Nat.add_zero] at hs
    clear hv
    refine Wk ?_
    refine ⟨⟨rid, t + 1, i + 1, 2 * v, by simp (disch := omega) [go_sem, *, -List.reduceReplicate], by simp (disch := omega) [go_sem, *, -List.reduceReplicate], by simp (disch := omega) [go_sem, *, -List.reduceReplicate], by simp (disch := omega) [go_sem, *, -List.reduceReplicate], by omega, by omega, by omega, by simp (disch := omega) [go_sem, *, -List.reduceReplicate], by simp (disch := omega) [go_sem, *, -List.reduceReplicate], hNr, by simp only; omega, by simp only; omega, (fun id hid => by simp (disch := omega) only; try exact hlow id hid)⟩, ?_⟩
    simp (disch := omega) [go_sem, *, -List.reduceReplicate]
    omega
 ·have hati : ¬ (at_ : Int) < 8 * (b.length : Int) := by omega
  have hd : (bitsB b).drop at_ = [] := List.drop_eq_nil_of_le (by rw [bitsB_len]; omega)
  rw [hd, textOf_nil, List.append_nil] at htot
  subst htot
  have hstr : strAV (textS b) = .lit (.string ⟨(textS b).toArray⟩) := rfl
  generalize textS b = acc at *
  clear hd
  refine Wk ?_
  exact W0

def valS (c : Nat) : Nat × Bool := if 97 ≤ c ∧ c ≤ 122 then (c - 71, true) else if 65 ≤ c ∧ c ≤ 90 then (c - 65, true) else if 48 ≤ c ∧ c ≤ 57 then (c + 4, true) else if c = 45 then (62, true) else (63, decide (c = 95))
theorem valS_lt (c : Nat) : (valS c).1 < 64 := by
 unfold valS
 split
 ·simp only; omega
 ·split
  ·simp only; omega
  ·split
   ·simp only; omega
   ·split <;> simp
theorem value_a (c : Nat) (h1 : 97 ≤ c) (h2 : c ≤ 122) (k : Nat) :
  ACall Tryz.prog 175 [.lit (.int .u8 c)] k [] (.tup [.lit (.int .i64 ((c - 71 : Nat) : Int)), .lit (.bool true)]) [] := by
 have w1 : IntKind.u8.wrap ((c : Int) - 32) = (c : Int) - 32 := by rw [IntKind.wrap_u8]; omega
 have w2 : IntKind.u8.wrap ((c : Int) - 32 - 65) = (c : Int) - 97 := by rw [IntKind.wrap_u8]; omega
 have hr : ((c - 71 : Nat) : Int) = 26 + ((c : Int) - 97) := by omega
 rw [hr]
 clear hr
 have h1i : (97 : Int) ≤ c := by omega
 have h2i : (c : Int) ≤ 122 := by omega
 refine Bd Tryz.func175 Tryz.ntmps175 fun σ N hp hpn hk hkn hfree => ?_
 exact W0
theorem value_b (c : Nat) (h1 : 65 ≤ c) (h2 : c ≤ 90) (k : Nat) :
  ACall Tryz.prog 175 [.lit (.int .u8 c)] k [] (.tup [.lit (.int .i64 ((c - 65 : Nat) : Int)), .lit (.bool true)]) [] := by
 have w2 : IntKind.u8.wrap ((c : Int) - 65) = (c : Int) - 65 := by rw [IntKind.wrap_u8]; omega
 have hr : ((c - 65 : Nat) : Int) = (c : Int) - 65 := by omega
 rw [hr]
 clear hr
 have h0i : ¬ (97 : Int) ≤ c := by omega
 have h1i : (65 : Int) ≤ c := by omega
 have h2i : (c : Int) ≤ 90 := by omega
 refine Bd Tryz.func175 Tryz.ntmps175 fun σ N hp hpn hk hkn hfree => ?_
 exact W0
theorem value_c (c : Nat) (h1 : 48 ≤ c) (h2 : c ≤ 57) (k : Nat) :
  ACall Tryz.prog 175 [.lit (.int .u8 c)] k [] (.tup [.lit (.int .i64 ((c + 4 : Nat) : Int)), .lit (.bool true)]) [] := by
 have w2 : IntKind.u8.wrap ((c : Int) - 48) = (c : Int) - 48 := by rw [IntKind.wrap_u8]; omega
 have hr : ((c + 4 : Nat) : Int) = 52 + ((c : Int) - 48) := by omega
 rw [hr]
 clear hr
 have h0i : ¬ (97 : Int) ≤ c := by omega
 have h3i : ¬ (65 : Int) ≤ c := by omega
 have h1i : (48 : Int) ≤ c := by omega
 have h2i : (c : Int) ≤ 57 := by omega
 refine Bd Tryz.func175 Tryz.ntmps175 fun σ N hp hpn hk hkn hfree => ?_
 exact W0
theorem value_d (c : Nat) (h1 : c = 45) (k : Nat) :
  ACall Tryz.prog 175 [.lit (.int .u8 c)] k [] (.tup [.lit (.int .i64 62), .lit (.bool true)]) [] := by
 subst h1
 refine Bd Tryz.func175 Tryz.ntmps175 fun σ N hp hpn hk hkn hfree => ?_
 exact W0
theorem value_e1 (c : Nat) (h1 : c < 48) (h2 : ¬ c = 45) (k : Nat) :
  ACall Tryz.prog 175 [.lit (.int .u8 c)] k [] (.tup [.lit (.int .i64 63), .lit (.bool (decide (c = 95)))]) [] := by
 have hb : ((c : Int) == 95) = decide (c = 95) := by rw [Bool.eq_iff_iff]; simp; omega
 have f0 : ¬ (97 : Int) ≤ c := by omega
 have f1 : ¬ (65 : Int) ≤ c := by omega
 have f2 : ¬ (48 : Int) ≤ c := by omega
 refine Bd Tryz.func175 Tryz.ntmps175 fun σ N hp hpn hk hkn hfree => ?_
 exact W0
theorem value_e2 (c : Nat) (h1 : 58 ≤ c) (h2 : c ≤ 64) (k : Nat) :
  ACall Tryz.prog 175 [.lit (.int .u8 c)] k [] (.tup [.lit (.int .i64 63), .lit (.bool (decide (c = 95)))]) [] := by
 have hb : ((c : Int) == 95) = decide (c = 95) := by rw [Bool.eq_iff_iff]; simp; omega
 have f0 : ¬ (97 : Int) ≤ c := by omega
 have f1 : ¬ (65 : Int) ≤ c := by omega
 have f2 : (48 : Int) ≤ c := by omega
 have f3 : ¬ (c : Int) ≤ 57 := by omega
 have f4 : ¬ c = 45 := by omega
 refine Bd Tryz.func175 Tryz.ntmps175 fun σ N hp hpn hk hkn hfree => ?_
 exact W0
theorem value_e3 (c : Nat) (h1 : 91 ≤ c) (h2 : c ≤ 96) (k : Nat) :
  ACall Tryz.prog 175 [.lit (.int .u8 c)] k [] (.tup [.lit (.int .i64 63), .lit (.bool (decide (c = 95)))]) [] := by
 have hb : ((c : Int) == 95) = decide (c = 95) := by rw [Bool.eq_iff_iff]; simp; omega
 have f0 : ¬ (97 : Int) ≤ c := by omega
 have f1 : (65 : Int) ≤ c := by omega
 have f2 : ¬ (c : Int) ≤ 90 := by omega
 have f3 : (48 : Int) ≤ c := by omega
 have f4 : ¬ (c : Int) ≤ 57 := by omega
 have f5 : ¬ c = 45 := by omega
 refine Bd Tryz.func175 Tryz.ntmps175 fun σ N hp hpn hk hkn hfree => ?_
 exact W0
theorem value_e4 (c : Nat) (h1 : 123 ≤ c) (k : Nat) :
  ACall Tryz.prog 175 [.lit (.int .u8 c)] k [] (.tup [.lit (.int .i64 63), .lit (.bool (decide (c = 95)))]) [] := by
 have hb : ((c : Int) == 95) = decide (c = 95) := by rw [Bool.eq_iff_iff]; simp; omega
 have f0 : (97 : Int) ≤ c := by omega
 have f1 : ¬ (c : Int) ≤ 122 := by omega
 have f2 : (65 : Int) ≤ c := by omega
 have f3 : ¬ (c : Int) ≤ 90 := by omega
 have f4 : (48 : Int) ≤ c := by omega
 have f5 : ¬ (c : Int) ≤ 57 := by omega
 have f6 : ¬ c = 45 := by omega
 refine Bd Tryz.func175 Tryz.ntmps175 fun σ N hp hpn hk hkn hfree => ?_
 exact W0
theorem value_spec (c : Nat) (k : Nat) :
  ACall Tryz.prog 175 [.lit (.int .u8 c)] k [] (.tup [.lit (.int .i64 (valS c).1), .lit (.bool (valS c).2)]) [] := by
 unfold valS
 by_cases h1 : 97 ≤ c ∧ c ≤ 122
 ·rw [if_pos h1]; exact value_a c h1.1 h1.2 k
 ·rw [if_neg h1]
  by_cases h2 : 65 ≤ c ∧ c ≤ 90
  ·rw [if_pos h2]; exact value_b c h2.1 h2.2 k
  ·rw [if_neg h2]
   by_cases h3 : 48 ≤ c ∧ c ≤ 57
   ·rw [if_pos h3]; exact value_c c h3.1 h3.2 k
   ·rw [if_neg h3]
    by_cases h4 : c = 45
    ·rw [if_pos h4]; exact value_d c h4 k
    ·rw [if_neg h4];
     by_cases g1 : c < 48
     ·exact value_e1 c g1 h4 k
     ·by_cases g2 : c ≤ 64
      ·exact value_e2 c (by omega) g2 k
      ·by_cases g3 : c ≤ 96
       ·exact value_e3 c (by omega) g3 k
       ·exact value_e4 c (by omega) k
end Go.Proofs.YtemmlldpmgfblaaGreatDoor

namespace Go.Proofs.YtemmlldpmgfblaaGreatDoor
open Go.Ab
def vals : List UInt8 → Option (List Nat)
 | [] => some []
 | c :: r => if (valS c.toNat).2 = true then (vals r).map ((valS c.toNat).1 :: ·) else none
def bits6 (vs : List Nat) : List Bool := vs.flatMap (bitsN 6)
theorem bits6_append (a b : List Nat) : bits6 (a ++ b) = bits6 a ++ bits6 b := by simp [bits6]
theorem bits6_one (v : Nat) : bits6 [v] = bitsN 6 v := by simp [bits6]
theorem bits6_cons (v : Nat) (r : List Nat) : bits6 (v :: r) = bitsN 6 v ++ bits6 r := by simp [bits6]
theorem bits6_len (vs : List Nat) : (bits6 vs).length = 6 * vs.length := by
 induction vs with
 | nil => rfl
 | cons v r ih => rw [bits6_cons, List.length_append, bitsN_len, ih, List.length_cons]; omega
def grp8 (l : List Bool) : List UInt8 := if 8 ≤ l.length then UInt8.ofNat (num (l.take 8)) :: grp8 (l.drop 8) else []
termination_by l.length
decreasing_by simp only [List.length_drop]; omega
def left8 (l : List Bool) : List Bool := if 8 ≤ l.length then left8 (l.drop 8) else l
termination_by l.length
decreasing_by simp only [List.length_drop]; omega
theorem grp8_small {l : List Bool} (h : l.length < 8) : grp8 l = [] := by rw [grp8, if_neg (by omega)]
theorem left8_small {l : List Bool} (h : l.length < 8) : left8 l = l := by rw [left8, if_neg (by omega)]
theorem grp8_big {l : List Bool} (h : 8 ≤ l.length) : grp8 l = UInt8.ofNat (num (l.take 8)) :: grp8 (l.drop 8) := by rw [grp8, if_pos h]
theorem left8_big {l : List Bool} (h : 8 ≤ l.length) : left8 l = left8 (l.drop 8) := by rw [left8, if_pos h]
theorem grp8_append (l x : List Bool) : grp8 (l ++ x) = grp8 l ++ grp8 (left8 l ++ x) ∧ left8 (l ++ x) = left8 (left8 l ++ x) := by
 induction h : l.length using Nat.strongRecOn generalizing l with
 | _ n ih =>
  by_cases h8 : 8 ≤ l.length
  ·have hd : (l.drop 8).length = l.length - 8 := List.length_drop
   have := ih (l.drop 8).length (by omega) (l.drop 8) rfl
   rw [grp8_big h8, left8_big h8, grp8_big (l := l ++ x) (by rw [List.length_append]; omega), left8_big (l := l ++ x) (by rw [List.length_append]; omega), List.take_append_of_le_length h8, List.drop_append_of_le_length h8, this.1, this.2]
   exact ⟨rfl, rfl⟩
  ·rw [grp8_small (l := l) (by omega), left8_small (l := l) (by omega)]; exact ⟨rfl, rfl⟩
theorem left8_len (l : List Bool) : (left8 l).length < 8 ∧ (left8 l).length = l.length % 8 := by
 induction h : l.length using Nat.strongRecOn generalizing l with
 | _ n ih =>
  by_cases h8 : 8 ≤ l.length
  ·have hd : (l.drop 8).length = l.length - 8 := List.length_drop
   have := ih (l.drop 8).length (by omega) (l.drop 8) rfl
   rw [left8_big h8]; omega
  ·rw [left8_small (by omega)]; omega
theorem grp8_len (l : List Bool) : (grp8 l).length = l.length / 8 := by
 induction h : l.length using Nat.strongRecOn generalizing l with
 | _ n ih =>
  by_cases h8 : 8 ≤ l.length
  ·have hd : (l.drop 8).length = l.length - 8 := List.length_drop
   have := ih (l.drop 8).length (by omega) (l.drop 8) rfl
   rw [grp8_big h8, List.length_cons]; omega
  ·rw [grp8_small (by omega), List.length_nil]; omega
theorem vals_append : ∀ (a b : List UInt8) (x y : List Nat), vals a = some x → vals b = some y → vals (a ++ b) = some (x ++ y)
 | [], b, x, y, h1, h2 => by simp only [vals, Option.some.injEq] at h1; subst h1; exact h2
 | c :: r, b, x, y, h1, h2 => by
  simp only [vals] at h1
  split at h1
  ·rename_i hc
   cases hr : vals r with
   | none => rw [hr] at h1; simp at h1
   | some z =>
    rw [hr] at h1
    simp only [Option.map_some, Option.some.injEq] at h1
    subst h1
    simp only [List.cons_append, vals, if_pos hc, vals_append r b z y hr h2, Option.map_some]
  ·cases h1
theorem vals_len : ∀ (a : List UInt8) (x : List Nat), vals a = some x → x.length = a.length
 | [], x, h => by simp only [vals, Option.some.injEq] at h; subst h; rfl
 | c :: r, x, h => by
  simp only [vals] at h
  split at h
  ·cases hr : vals r with
   | none => rw [hr] at h; simp at h
   | some z =>
    rw [hr] at h
    simp only [Option.map_some, Option.some.injEq] at h
    subst h
    simp [vals_len r z hr]
  ·cases h
theorem vals_bad : ∀ (a : List UInt8) (u : Nat) (h : u < a.length), (valS (a[u]).toNat).2 = false → vals a = none
 | c :: r, 0, h, hb => by simp only [List.getElem_cons_zero] at hb; simp [vals, hb]
 | c :: r, u + 1, h, hb => by
  simp only [List.getElem_cons_succ] at hb
  have := vals_bad r u (by simpa using h) hb
  simp [vals, this]
theorem vals_snoc {s : List UInt8} {u : Nat} {c : UInt8} {vs : List Nat} (h : u < s.length) (hx : s[u] = c) (hc : (valS c.toNat).2 = true) (hv : vals (s.take u) = some vs) : vals (s.take (u + 1)) = some (vs ++ [(valS c.toNat).1]) := by
 rw [List.take_add_one, List.getElem?_eq_getElem h, hx]
 exact vals_append _ _ _ _ hv (by simp [vals, hc])
def decS (s : List UInt8) : List UInt8 × Nat :=
 if 5462 < s.length then ([], 2) else match vals s with
 | none => ([], 8)
 | some vs => if s.length % 4 = 1 then ([], 3) else if num (left8 (bits6 vs)) ≠ 0 then ([], 5) else (grp8 (bits6 vs), 0)
def decAV (r : List UInt8 × Nat) : AV := .tup [.slice none (r.1.map byteAV), .lit (.int .i64 r.2)]
theorem push6_small {p : List Bool} {v : Nat} (hv : v < 64) (h : p.length + 6 < 8) : grp8 (p ++ bitsN 6 v) = [] ∧ left8 (p ++ bitsN 6 v) = p ++ bitsN 6 v ∧ num (p ++ bitsN 6 v) = num p * 64 + v := by
 have hl : (p ++ bitsN 6 v).length = p.length + 6 := by rw [List.length_append, bitsN_len]
 refine ⟨grp8_small (by omega), left8_small (by omega), ?_⟩
 rw [num_append, bitsN_len, num_bitsN, Nat.mod_eq_of_lt (by exact hv)]
theorem push6_big {p : List Bool} {v n : Nat} (hv : v < 64) (h : p.length + 6 = n + 8) (hn : n < 8) : grp8 (p ++ bitsN 6 v) = [UInt8.ofNat ((num p * 64 + v) / 2 ^ n)] ∧ left8 (p ++ bitsN 6 v) = (p ++ bitsN 6 v).drop 8 ∧ num ((p ++ bitsN 6 v).drop 8) = (num p * 64 + v) % 2 ^ n ∧ (num p * 64 + v) / 2 ^ n < 256 := by
 have hl : (p ++ bitsN 6 v).length = n + 8 := by rw [List.length_append, bitsN_len]; exact h
 have hq : num (p ++ bitsN 6 v) = num p * 64 + v := by rw [num_append, bitsN_len, num_bitsN, Nat.mod_eq_of_lt (by exact hv)]
 generalize p ++ bitsN 6 v = q at *
 have hd : (q.drop 8).length = n := by rw [List.length_drop]; omega
 have h1 := num_append (q.take 8) (q.drop 8)
 rw [List.take_append_drop, hd, hq] at h1
 have h2 := num_lt (q.drop 8)
 have h3 := num_lt (q.take 8)
 rw [hd] at h2
 rw [List.length_take, hl, show min 8 (n + 8) = 8 by omega] at h3
 have hp : 0 < 2 ^ n := Nat.two_pow_pos _
 have e1 : (num p * 64 + v) / 2 ^ n = num (q.take 8) := by rw [h1, Nat.mul_comm, Nat.mul_add_div hp, Nat.div_eq_of_lt h2]; rfl
 have e2 : (num p * 64 + v) % 2 ^ n = num (q.drop 8) := by rw [h1, Nat.mul_comm, Nat.mul_add_mod, Nat.mod_eq_of_lt h2]
 refine ⟨?_, ?_, e2.symm, by rw [e1]; exact h3⟩
 ·rw [grp8_big (by omega), grp8_small (by omega), e1]
 ·rw [left8_big (by omega), left8_small (by omega)]
end Go.Proofs.YtemmlldpmgfblaaGreatDoor

namespace Go.Proofs.YtemmlldpmgfblaaGreatDoor
open Go.Ab
attribute [local irreducible] Go.Ab.tyAV Go.Ab.aw Go.Ab.aops Go.Ab.kReg Go.Ab.aThen Go.Ab.aBlk Go.Ab.acond Go.Ab.aguard Go.Ab.astep Go.Ab.AStepX Go.Ab.aRet
theorem i64_or6 (r x : Nat) (hr : r < 1000000) (hx : x < 64) : bits .or .i64 ((r : Int) * 64) x = ((r * 64 + x : Nat) : Int) := by
 have h : bits .or .i64 ((r : Int) * 64) x = (r : Int) * 64 + x := bits_join .i64 63 (by decide) (fun n a b => wrap_i64 (by omega) (by omega)) 6 ((r : Int) * 64) x (by omega) (by omega) (by omega) (by omega) (by omega) (by omega)
 rw [h]; omega
theorem i64_and15 (x : Int) (h0 : 0 ≤ x) (h1 : x ≤ 9223372036854775807) : bits .and .i64 x 15 = x % 16 :=
 bits_mask .i64 63 (by decide) (fun n a b => wrap_i64 (by omega) (by omega)) 4 (by decide) x h0 (by omega)
theorem i64_and3 (x : Int) (h0 : 0 ≤ x) (h1 : x ≤ 9223372036854775807) : bits .and .i64 x 3 = x % 4 :=
 bits_mask .i64 63 (by decide) (fun n a b => wrap_i64 (by omega) (by omega)) 2 (by decide) x h0 (by omega)
theorem i64_and0 (x : Int) (h0 : 0 ≤ x) (h1 : x ≤ 9223372036854775807) : bits .and .i64 x 0 = x % 1 :=
 bits_mask .i64 63 (by decide) (fun n a b => wrap_i64 (by omega) (by omega)) 0 (by decide) x h0 (by omega)
theorem dec_long (s : List UInt8) (hl : 5462 < s.length) (hl2 : s.length ≤ 9223372036854775807) (k : Nat) :
  ACall Tryz.prog 114 [strAV s] k [] (.tup [.slice none [], .lit (.int .i64 2)]) [] := by
 have h2 : (5462 : Int) < s.length := by omega
 have hs : strAV s = .lit (.string ⟨s.toArray⟩) := rfl
 rw [hs]
 refine Bd Tryz.func114 Tryz.ntmps114 fun σ N hp hpn hk hkn hfree => ?_
 exact WL
theorem dec_core (s : List UInt8) (hl : s.length ≤ 5462) (k : Nat) :
  ACall Tryz.prog 114 [strAV s] k [] (decAV (decS s)) [] := by
 have h2 : ¬ (5462 : Int) < s.length := by omega
 have hs : strAV s = .lit (.string ⟨s.toArray⟩) := rfl
 rw [hs]
 have hD : decS s = (match vals s with
   | none => ([], 8)
   | some vs => if s.length % 4 = 1 then ([], 3) else if num (left8 (bits6 vs)) ≠ 0 then ([], 5) else (grp8 (bits6 vs), 0)) := by rw [decS, if_neg (by omega)]; try (cases vals s <;> rfl)
 refine Bd Tryz.func114 Tryz.ntmps114 fun σ N hp hpn hk hkn hfree => ?_
 refine Wk ?_
 refine ALoop.nilrow 4 5 1 (by simp (disch := omega) [go_sem, *, -List.reduceReplicate]) ?_
 refine go_loop (aloop mixed (by kernel_rfl) (fun c => ∃ (u rid : Nat) (vs : List Nat) (p : List Bool) (acc : List UInt8), c.s 0 = .lit (.string ⟨s.toArray⟩) ∧ c.s 14 = .lit (.int .i64 s.length) ∧ c.s 15 = .lit (.int .i64 u) ∧ u ≤ s.length ∧ c.s 5 = .lit (.int .i64 (num p)) ∧ c.s 6 = .lit (.int .i64 p.length) ∧ c.s 4 = .slice (some rid) (acc.map byteAV) ∧ c.σ rid = .row 5 1 acc.length ∧ N ≤ rid ∧ rid < c.n ∧ N ≤ c.n ∧ (∀ id, id < N → c.σ id = σ id) ∧ vals (s.take u) = some vs ∧ p = left8 (bits6 vs) ∧ acc = grp8 (bits6 vs))
  (fun c => match c.s 15 with | .lit (.int _ m) => s.length - m.toNat | _ => 0) ⟨0, _, [], [], [], by simp (disch := omega) [go_sem, *, -List.reduceReplicate], by simp (disch := omega) [go_sem, *, -List.reduceReplicate], by simp (disch := omega) [go_sem, *, -List.reduceReplicate], by omega, by simp (disch := omega) [go_sem, *, -List.reduceReplicate]; rfl, by simp (disch := omega) [go_sem, *, -List.reduceReplicate], by simp (disch := omega) [go_sem, *, -List.reduceReplicate]; rfl, by simp (disch := omega) [go_sem, *, -List.reduceReplicate], by omega, by simp only; omega, by simp only; omega, (fun id hid => by simp (disch := omega) only [upd_ne]; try exact hlow id hid), rfl, by rw [show bits6 [] = [] from rfl, left8_small (by simp)], by rw [show bits6 [] = [] from rfl, grp8_small (by simp)]⟩ ?_)
 rintro ⟨s1, σ', n'⟩ ⟨u, rid, vs, p, acc, h0, h14, h15, hu, h5, h6, h4, hr, hNr, hrn, hn', hlow, hvs, hp, hacc⟩
 simp only at h0 h14 h15 h5 h6 h4 hr hNr hrn hn' hlow
 have hvl := vals_len _ _ hvs
 rw [List.length_take] at hvl
 have hb6 := bits6_len vs
 have hp8 := left8_len (bits6 vs)
 have ha8 := grp8_len (bits6 vs)
 rw [← hp] at hp8
 rw [← hacc] at ha8
 by_cases hul : u = s.length
 ·subst hul
  rw [List.take_length] at hvs
  rw [hvs] at hD
  simp only at hD
  rw [← hp, ← hacc] at hD
  have hal : ¬ (4096 : Int) < acc.length := by omega
  by_cases hm : s.length % 4 = 1
  ·rw [if_pos hm] at hD
   rw [hD, decAV]
   have hmi : (s.length : Int).tmod 4 = 1 := by rw [Int.tmod_eq_emod_of_nonneg (by omega)]; omega
   clear hvs hp hacc hvl hb6 hp8 ha8 hD hm
   exact WL
  ·rw [if_neg hm] at hD
   have hmi : ((s.length : Int).tmod 4 == 1) = false := by rw [Int.tmod_eq_emod_of_nonneg (by omega), beq_eq_false_iff_ne]; omega
   have hmj : ¬ (s.length : Int).tmod 4 = 1 := by rw [Int.tmod_eq_emod_of_nonneg (by omega)]; omega
   by_cases hz : num p ≠ 0
   ·rw [if_pos hz] at hD
    rw [hD, decAV]
    have hzi : ((num p : Int) == 0) = false := by rw [beq_eq_false_iff_ne]; omega
    have hzj : ¬ (num p : Int) = 0 := by omega
    clear hvs hp hacc hvl hb6 hp8 ha8 hD hm
    exact WL
   ·rw [if_neg hz] at hD
    rw [hD, decAV]
    have hz0 : num p = 0 := by omega
    clear hvs hp hacc hvl hb6 hp8 ha8 hD hm hz
    rw [hz0] at h5
    exact WL
 ·have hu2 : u < s.length := by omega
  obtain ⟨x, hx⟩ : ∃ x, s[u] = x := ⟨_, rfl⟩
  have hc := value_spec x.toNat (N + 0)
  by_cases hok : (valS x.toNat).2 = true
  ·have hsn := vals_snoc hu2 hx hok hvs
   have hgr := grp8_append (bits6 vs) (bitsN 6 (valS x.toNat).1)
   rw [← bits6_one, ← bits6_append, bits6_one, ← hp, ← hacc] at hgr
   have hv6 := valS_lt x.toNat
   clear hD hc
   generalize vs ++ [(valS x.toNat).1] = vs2 at hsn hgr
   have hspec := fun k => value_spec x.toNat k
   rw [hok] at hspec
   generalize (valS x.toNat).1 = v at hspec hgr hv6
   have hor := fun h => i64_or6 (num p) v h hv6
   have hpe : p.length = 0 ∨ p.length = 2 ∨ p.length = 4 ∨ p.length = 6 := by omega
   have hal2 : acc.length ≤ 4096 := by omega
   clear hp hacc hvs hvl hb6 hp8 ha8
   rcases hpe with hpl | hpl | hpl | hpl
   ·have hnl := num_lt p
    rw [hpl] at hnl
    simp only [Nat.reducePow] at hnl
    have hor2 := hor (by omega)
    have h6' : s1 6 = .lit (.int .i64 0) := by rw [h6, hpl]; rfl
    clear h6 hor
    obtain ⟨q1, q2, q3⟩ := push6_small (p := p) hv6 (by omega)
    rw [q1, q2] at hgr
    rw [← q3] at hor2
    have hm63 : bits .and .i64 ((num (p ++ bitsN 6 v) : Nat) : Int) 63 = num (p ++ bitsN 6 v) := by
     have := num_lt (p ++ bitsN 6 v)
     rw [List.length_append, hpl, bitsN_len] at this
     simp only [Nat.reduceAdd, Nat.reducePow] at this
     rw [i64_and63 _ (by omega) (by omega)]; omega
    have hql : (p ++ bitsN 6 v).length = 6 := by rw [List.length_append, hpl, bitsN_len]
    clear q1 q2 q3
    generalize p ++ bitsN 6 v = q at *
    generalize num p = np at *
    have hcs := And.intro hspec True.intro
    refine Wk ?_
    refine ⟨⟨u + 1, rid, vs2, q, acc, by simp (disch := omega) [go_sem, *, -List.reduceReplicate], by simp (disch := omega) [go_sem, *, -List.reduceReplicate], by simp (disch := omega) [go_sem, *, -List.reduceReplicate], by omega, by simp (disch := omega) [go_sem, *, -List.reduceReplicate], by simp (disch := omega) [go_sem, *, -List.reduceReplicate], by simp (disch := omega) [go_sem, *, -List.reduceReplicate], by simp (disch := omega) [go_sem, *, -List.reduceReplicate], by omega, by simp only; omega, by simp only; omega, (fun id hid => by simp (disch := omega) only [wr_nil]; try exact hlow id hid), hsn, by rw [hgr.2], by rw [hgr.1, List.append_nil]⟩, ?_⟩
    simp (disch := omega) [go_sem, *, -List.reduceReplicate]
    omega
   ·have hnl := num_lt p
    rw [hpl] at hnl
    simp only [Nat.reducePow] at hnl
    have hor2 := hor (by omega)
    have h6' : s1 6 = .lit (.int .i64 2) := by rw [h6, hpl]; rfl
    clear h6 hor
    obtain ⟨q1, q2, q3, q4⟩ := push6_big (p := p) (v := v) (n := 0) hv6 (by omega) (by omega)
    rw [q1, q2] at hgr
    simp only [Nat.reducePow] at q3 q4 hgr
    have hql : ((p ++ bitsN 6 v).drop 8).length = 0 := by rw [List.length_drop, List.length_append, hpl, bitsN_len]
    have hfd : ((num p * 64 + v : Nat) : Int).fdiv 1 = (((num p * 64 + v) / 1 : Nat) : Int) := by rw [Int.fdiv_eq_ediv_of_nonneg _ (by omega)]; omega
    have hmk : bits .and .i64 ((num p * 64 + v : Nat) : Int) 0 = (num ((p ++ bitsN 6 v).drop 8) : Int) := by
     rw [i64_and0 _ (by omega) (by omega), q3]; omega
    clear q1 q2 q3
    generalize (p ++ bitsN 6 v).drop 8 = q at *
    generalize (num p * 64 + v) / 1 = by_ at *
    have hby : byteAV (UInt8.ofNat by_) = .lit (.int .u8 by_) := by rw [byteAV, UInt8.toNat_ofNat', Nat.mod_eq_of_lt (by omega)]
    have hu8 : IntKind.u8.wrap (by_ : Int) = by_ := by rw [IntKind.wrap_u8]; omega
    generalize UInt8.ofNat by_ = bb at hby hgr
    generalize num p * 64 + v = big at *
    generalize num p = np at *
    have hcs := And.intro hspec True.intro
    refine Wk ?_
    refine ⟨⟨u + 1, rid, vs2, q, acc ++ [bb], by simp (disch := omega) [go_sem, *, -List.reduceReplicate], by simp (disch := omega) [go_sem, *, -List.reduceReplicate], by simp (disch := omega) [go_sem, *, -List.reduceReplicate], by omega, by simp (disch := omega) [go_sem, *, -List.reduceReplicate], by simp (disch := omega) [go_sem, *, -List.reduceReplicate], by simp (disch := omega) [go_sem, *, -List.reduceReplicate], by simp (disch := omega) [go_sem, *, -List.reduceReplicate], by omega, by simp only; omega, by simp only; omega, (fun id hid => by simp (disch := omega) only [upd_ne, wr_nil]; try exact hlow id hid), hsn, by rw [hgr.2], by rw [hgr.1]⟩, ?_⟩
    simp (disch := omega) [go_sem, *, -List.reduceReplicate]
    omega
   ·have hnl := num_lt p
    rw [hpl] at hnl
    simp only [Nat.reducePow] at hnl
    have hor2 := hor (by omega)
    have h6' : s1 6 = .lit (.int .i64 4) := by rw [h6, hpl]; rfl
    clear h6 hor
    obtain ⟨q1, q2, q3, q4⟩ := push6_big (p := p) (v := v) (n := 2) hv6 (by omega) (by omega)
    rw [q1, q2] at hgr
    simp only [Nat.reducePow] at q3 q4 hgr
    have hql : ((p ++ bitsN 6 v).drop 8).length = 2 := by rw [List.length_drop, List.length_append, hpl, bitsN_len]
    have hfd : ((num p * 64 + v : Nat) : Int).fdiv 4 = (((num p * 64 + v) / 4 : Nat) : Int) := by rw [Int.fdiv_eq_ediv_of_nonneg _ (by omega)]; omega
    have hmk : bits .and .i64 ((num p * 64 + v : Nat) : Int) 3 = (num ((p ++ bitsN 6 v).drop 8) : Int) := by
     rw [i64_and3 _ (by omega) (by omega), q3]; omega
    clear q1 q2 q3
    generalize (p ++ bitsN 6 v).drop 8 = q at *
    generalize (num p * 64 + v) / 4 = by_ at *
    have hby : byteAV (UInt8.ofNat by_) = .lit (.int .u8 by_) := by rw [byteAV, UInt8.toNat_ofNat', Nat.mod_eq_of_lt (by omega)]
    have hu8 : IntKind.u8.wrap (by_ : Int) = by_ := by rw [IntKind.wrap_u8]; omega
    generalize UInt8.ofNat by_ = bb at hby hgr
    generalize num p * 64 + v = big at *
    generalize num p = np at *
    have hcs := And.intro hspec True.intro
    refine Wk ?_
    refine ⟨⟨u + 1, rid, vs2, q, acc ++ [bb], by simp (disch := omega) [go_sem, *, -List.reduceReplicate], by simp (disch := omega) [go_sem, *, -List.reduceReplicate], by simp (disch := omega) [go_sem, *, -List.reduceReplicate], by omega, by simp (disch := omega) [go_sem, *, -List.reduceReplicate], by simp (disch := omega) [go_sem, *, -List.reduceReplicate], by simp (disch := omega) [go_sem, *, -List.reduceReplicate], by simp (disch := omega) [go_sem, *, -List.reduceReplicate], by omega, by simp only; omega, by simp only; omega, (fun id hid => by simp (disch := omega) only [upd_ne, wr_nil]; try exact hlow id hid), hsn, by rw [hgr.2], by rw [hgr.1]⟩, ?_⟩
    simp (disch := omega) [go_sem, *, -List.reduceReplicate]
    omega
   ·have hnl := num_lt p
    rw [hpl] at hnl
    simp only [Nat.reducePow] at hnl
    have hor2 := hor (by omega)
    have h6' : s1 6 = .lit (.int .i64 6) := by rw [h6, hpl]; rfl
    clear h6 hor
    obtain ⟨q1, q2, q3, q4⟩ := push6_big (p := p) (v := v) (n := 4) hv6 (by omega) (by omega)
    rw [q1, q2] at hgr
    simp only [Nat.reducePow] at q3 q4 hgr
    have hql : ((p ++ bitsN 6 v).drop 8).length = 4 := by rw [List.length_drop, List.length_append, hpl, bitsN_len]
    have hfd : ((num p * 64 + v : Nat) : Int).fdiv 16 = (((num p * 64 + v) / 16 : Nat) : Int) := by rw [Int.fdiv_eq_ediv_of_nonneg _ (by omega)]; omega
    have hmk : bits .and .i64 ((num p * 64 + v : Nat) : Int) 15 = (num ((p ++ bitsN 6 v).drop 8) : Int) := by
     rw [i64_and15 _ (by omega) (by omega), q3]; omega
    clear q1 q2 q3
    generalize (p ++ bitsN 6 v).drop 8 = q at *
    generalize (num p * 64 + v) / 16 = by_ at *
    have hby : byteAV (UInt8.ofNat by_) = .lit (.int .u8 by_) := by rw [byteAV, UInt8.toNat_ofNat', Nat.mod_eq_of_lt (by omega)]
    have hu8 : IntKind.u8.wrap (by_ : Int) = by_ := by rw [IntKind.wrap_u8]; omega
    generalize UInt8.ofNat by_ = bb at hby hgr
    generalize num p * 64 + v = big at *
    generalize num p = np at *
    have hcs := And.intro hspec True.intro
    refine Wk ?_
    refine ⟨⟨u + 1, rid, vs2, q, acc ++ [bb], by simp (disch := omega) [go_sem, *, -List.reduceReplicate], by simp (disch := omega) [go_sem, *, -List.reduceReplicate], by simp (disch := omega) [go_sem, *, -List.reduceReplicate], by omega, by simp (disch := omega) [go_sem, *, -List.reduceReplicate], by simp (disch := omega) [go_sem, *, -List.reduceReplicate], by simp (disch := omega) [go_sem, *, -List.reduceReplicate], by simp (disch := omega) [go_sem, *, -List.reduceReplicate], by omega, by simp only; omega, by simp only; omega, (fun id hid => by simp (disch := omega) only [upd_ne, wr_nil]; try exact hlow id hid), hsn, by rw [hgr.2], by rw [hgr.1]⟩, ?_⟩
    simp (disch := omega) [go_sem, *, -List.reduceReplicate]
    omega
  ·have hbad := vals_bad s u hu2 (by rw [hx]; simpa using hok)
   rw [hbad] at hD
   simp only at hD
   rw [hD, decAV]
   have hspec := fun k => value_spec x.toNat k
   have hok' : (valS x.toNat).2 = false := by simpa using hok
   rw [hok'] at hspec
   generalize (valS x.toNat).1 = v at hspec
   clear hp hacc hvs hvl hb6 hp8 ha8 hD hbad hok hok' hc
   have hcs := And.intro hspec True.intro
   exact WL
theorem dec_spec (s : List UInt8) (hl : s.length ≤ 9223372036854775807) (k : Nat) :
  ACall Tryz.prog 114 [strAV s] k [] (decAV (decS s)) [] := by
 by_cases h : s.length ≤ 5462
 ·exact dec_core s h k
 ·rw [decS, if_pos (by omega)]; exact dec_long s (by omega) hl k
end Go.Proofs.YtemmlldpmgfblaaGreatDoor

namespace Go.Proofs.YtemmlldpmgfblaaGreatDoor
open Go.Ab
theorem grp8_eq (B : List Bool) : grp8 B = (List.range (B.length / 8)).map (fun j => UInt8.ofNat (num ((B.drop (8 * j)).take 8))) := by
 induction h : B.length using Nat.strongRecOn generalizing B with
 | _ n ih =>
  by_cases h8 : 8 ≤ B.length
  ·have hd : (B.drop 8).length = B.length - 8 := List.length_drop
   rw [grp8_big h8, ih (B.drop 8).length (by omega) (B.drop 8) rfl, hd, ← h, show B.length / 8 = (B.length - 8) / 8 + 1 by omega, List.range_succ_eq_map, List.map_cons, List.map_map]
   simp only [Nat.mul_zero, List.drop_zero]
   congr 1
   refine List.map_congr_left fun j _ => ?_
   rw [List.drop_drop]
   simp only [Function.comp, Nat.succ_eq_add_one]
   rw [show 8 + 8 * j = 8 * (j + 1) by omega]
  ·rw [grp8_small (by omega), show n / 8 = 0 by omega]; rfl
theorem left8_eq (B : List Bool) : left8 B = B.drop (8 * (B.length / 8)) := by
 induction h : B.length using Nat.strongRecOn generalizing B with
 | _ n ih =>
  by_cases h8 : 8 ≤ B.length
  ·have hd : (B.drop 8).length = B.length - 8 := List.length_drop
   rw [left8_big h8, ih (B.drop 8).length (by omega) (B.drop 8) rfl, hd, List.drop_drop, ← h]
   congr 1; omega
  ·rw [left8_small (by omega), show 8 * (n / 8) = 0 by omega, List.drop_zero]
def outAt (B : List Bool) (i M : Nat) : List Nat := (List.range M).map fun j => num (((B.take i).drop (8 * j)).take 8)
theorem outAt_len (B : List Bool) (i M : Nat) : (outAt B i M).length = M := by simp [outAt]
theorem outAt_zero (B : List Bool) (M : Nat) : outAt B 0 M = List.replicate M 0 := by
 refine List.ext_getElem (by simp [outAt]) fun j h1 h2 => ?_
 simp [outAt, num_nil]
theorem outAt_full (B : List Bool) : (outAt B B.length (B.length / 8)).map UInt8.ofNat = grp8 B := by
 rw [grp8_eq, outAt, List.map_map, List.take_length]; rfl
theorem outAt_get (B : List Bool) (i M j : Nat) (h : j < (outAt B i M).length) : (outAt B i M)[j] = num (((B.take i).drop (8 * j)).take 8) := by
 simp [outAt]
theorem outAt_step {B : List Bool} {i M : Nat} {b : Bool} (hB : B[i]? = some b) (_h : i / 8 < M) : outAt B (i + 1) M = (outAt B i M).set (i / 8) (2 * num (((B.take i).drop (8 * (i / 8))).take 8) + b.toNat) ∧ 2 * num (((B.take i).drop (8 * (i / 8))).take 8) + b.toNat < 256 := by
 have hi : i < B.length := by
  rcases Nat.lt_or_ge i B.length with h | h
  ·exact h
  ·rw [List.getElem?_eq_none h] at hB; cases hB
 have ht : B.take (i + 1) = B.take i ++ [b] := by rw [List.take_add_one, hB]; rfl
 have hl : (B.take i).length = i := by rw [List.length_take]; omega
 have hown : ((B.take (i + 1)).drop (8 * (i / 8))).take 8 = ((B.take i).drop (8 * (i / 8))).take 8 ++ [b] := by
  rw [ht, List.drop_append_of_le_length (by omega)]
  have hl2 : ((B.take i).drop (8 * (i / 8))).length = i % 8 := by rw [List.length_drop, hl]; omega
  rw [List.take_of_length_le (i := 8) (l := (B.take i).drop (8 * (i / 8)) ++ [b]) (by rw [List.length_append, hl2]; simp; omega), List.take_of_length_le (i := 8) (l := (B.take i).drop (8 * (i / 8))) (by omega)]
 constructor
 ·refine List.ext_getElem (by simp [outAt]) fun j h1 h2 => ?_
  rw [outAt_get]
  rw [List.getElem_set]
  split
  ·rename_i hj
   subst hj
   rw [hown, num_snoc]
  ·rename_i hj
   rw [outAt_get, ht]
   by_cases hlt : j < i / 8
   ·rw [List.drop_append_of_le_length (by omega), List.take_append_of_le_length (by rw [List.length_drop, hl]; omega)]
   ·rw [show (B.take i ++ [b]).drop (8 * j) = [] from List.drop_eq_nil_of_le (by rw [List.length_append, hl]; simp; omega), show (B.take i).drop (8 * j) = [] from List.drop_eq_nil_of_le (by omega)]
 ·rw [← num_snoc, ← hown]
  have h1 := num_lt (((B.take (i + 1)).drop (8 * (i / 8))).take 8)
  have h2 : 2 ^ (((B.take (i + 1)).drop (8 * (i / 8))).take 8).length ≤ 2 ^ 8 := Nat.pow_le_pow_right (by omega) (by rw [List.length_take]; omega)
  omega
theorem bits6_get (vs : List Nat) : ∀ (i v : Nat), vs[i / 6]? = some v → (bits6 vs)[i]? = some (v / 2 ^ (5 - i % 6) % 2 == 1) := by
 induction vs with
 | nil => intro i x h; simp at h
 | cons y r ih =>
  intro i x h
  rw [bits6_cons]
  by_cases hi : i < 6
  ·rw [show i / 6 = 0 by omega, List.getElem?_cons_zero] at h
   cases h
   rw [List.getElem?_append_left (by rw [bitsN_len]; exact hi), bitsN_get _ 6 i hi, show i % 6 = i by omega]
  ·rw [List.getElem?_append_right (by rw [bitsN_len]; omega), bitsN_len]
   obtain ⟨j, rfl⟩ : ∃ j, i = j + 6 := ⟨i - 6, by omega⟩
   rw [show (j + 6) / 6 = j / 6 + 1 by omega, List.getElem?_cons_succ] at h
   rw [show j + 6 - 6 = j by omega, ih j x h, show (j + 6) % 6 = j % 6 by omega]
theorem num_pos : ∀ (l : List Bool) (j : Nat), l[j]? = some true → num l ≠ 0
 | [], j, h => by simp at h
 | b :: r, 0, h => by
  simp only [List.getElem?_cons_zero, Option.some.injEq] at h
  subst h
  rw [num_cons]
  have : 0 < 2 ^ r.length := Nat.two_pow_pos _
  simp only [Bool.toNat_true]; omega
 | b :: r, j + 1, h => by
  rw [List.getElem?_cons_succ] at h
  have := num_pos r j h
  rw [num_cons]; omega
theorem num_zero : ∀ (l : List Bool), (∀ j : Nat, l[j]? ≠ some true) → num l = 0
 | [], _ => rfl
 | b :: r, h => by
  have hb : b = false := by
   have := h 0
   cases b
   ·rfl
   ·simp at this
  rw [num_cons, num_zero r (fun j => by have := h (j + 1); rwa [List.getElem?_cons_succ] at this), hb]; simp
theorem left8_pos {B : List Bool} {i : Nat} (h : B[i]? = some true) (hi : 8 * (B.length / 8) ≤ i) : num (left8 B) ≠ 0 := by
 rw [left8_eq]
 refine num_pos _ (i - 8 * (B.length / 8)) ?_
 rw [List.getElem?_drop, show 8 * (B.length / 8) + (i - 8 * (B.length / 8)) = i by omega, h]
theorem left8_zero {B : List Bool} (h : ∀ i : Nat, 8 * (B.length / 8) ≤ i → i < B.length → B[i]? ≠ some true) : num (left8 B) = 0 := by
 rw [left8_eq]
 refine num_zero _ fun j hj => ?_
 rw [List.getElem?_drop] at hj
 rcases Nat.lt_or_ge (8 * (B.length / 8) + j) B.length with h1 | h1
 ·exact h _ (by omega) h1 hj
 ·rw [List.getElem?_eq_none h1] at hj; cases hj
theorem alph_valS : ∀ (x : Fin 256) (k : Fin 64), (alph k).toNat = x ↔ (valS x).2 = true ∧ (valS x).1 = k := by decide +kernel
theorem alph_val (x : UInt8) (k : Nat) (hk : k < 64) : alph k = x ↔ (valS x.toNat).2 = true ∧ (valS x.toNat).1 = k := by
 have := alph_valS ⟨x.toNat, x.toNat_lt⟩ ⟨k, hk⟩
 simp only at this
 rw [← this]
 exact ⟨fun h => by rw [h], fun h => UInt8.toNat_inj.1 h⟩
def found (x : UInt8) (k : Nat) : Int := if (valS x.toNat).2 = true ∧ (valS x.toNat).1 < k then (valS x.toNat).1 else -1
theorem found_zero (x : UInt8) : found x 0 = -1 := by rw [found, if_neg (by omega)]
theorem found_hit (x : UInt8) (k : Nat) (hk : k < 64) (h : alph k = x) : found x (k + 1) = k := by
 have := (alph_val x k hk).1 h
 rw [found, if_pos ⟨this.1, by omega⟩, this.2]
theorem found_miss (x : UInt8) (k : Nat) (hk : k < 64) (h : ¬ alph k = x) : found x (k + 1) = found x k := by
 have := fun h' => h ((alph_val x k hk).2 h')
 unfold found
 by_cases h2 : (valS x.toNat).2 = true
 ·have h3 : ¬ (valS x.toNat).1 = k := fun e => this ⟨h2, e⟩
  by_cases h4 : (valS x.toNat).1 < k
  ·rw [if_pos ⟨h2, by omega⟩, if_pos ⟨h2, h4⟩]
  ·rw [if_neg (fun h => by omega), if_neg (fun h => by omega)]
 ·rw [if_neg (fun h => h2 h.1), if_neg (fun h => h2 h.1)]
theorem found_end (x : UInt8) : found x 64 = if (valS x.toNat).2 = true then ((valS x.toNat).1 : Int) else -1 := by
 have := valS_lt x.toNat
 unfold found
 by_cases h2 : (valS x.toNat).2 = true
 ·rw [if_pos ⟨h2, this⟩, if_pos h2]
 ·rw [if_neg (fun h => h2 h.1), if_neg h2]
def iv (v : Nat) : AV := .lit (.int .i64 v)
def tab (vs : List Nat) (n : Nat) : List AV := vs.map iv ++ List.replicate n (.lit (.int .i64 0))
theorem tab_set (vs : List Nat) (n v : Nat) : (tab vs (n + 1)).set vs.length (.lit (.int .i64 v)) = tab (vs ++ [v]) n := by
 rw [tab, List.set_append_right _ _ (by simp)]
 simp [tab, List.replicate_succ, iv]
theorem tab_len (vs : List Nat) (n : Nat) : (tab vs n).length = vs.length + n := by simp [tab]
theorem tab_done (vs : List Nat) : tab vs 0 = vs.map iv := by simp [tab]
theorem tab_nil (n : Nat) : tab [] n = List.replicate n (.lit (.int .i64 0)) := by simp [tab]
end Go.Proofs.YtemmlldpmgfblaaGreatDoor

namespace Go.Proofs.YtemmlldpmgfblaaGreatDoor
open Go.Ab
attribute [local irreducible] Go.Ab.tyAV Go.Ab.aw Go.Ab.aops Go.Ab.kReg Go.Ab.aThen Go.Ab.aBlk Go.Ab.acond Go.Ab.aguard Go.Ab.astep Go.Ab.AStepX Go.Ab.aRet
theorem ref_long (s : List UInt8) (hl : 5462 < s.length) (hl2 : s.length ≤ 9223372036854775807) (k : Nat) :
  ACall Tryz.prog 115 [strAV s] k [] (.tup [.slice none [], .lit (.int .i64 2)]) [] := by
 have h2 : (5462 : Int) < s.length := by omega
 have hs : strAV s = .lit (.string ⟨s.toArray⟩) := rfl
 rw [hs]
 refine Bd Tryz.func115 Tryz.ntmps115 fun σ N hp hpn hk hkn hfree => ?_
 exact WL
theorem vals_lt : ∀ (a : List UInt8) (x : List Nat), vals a = some x → ∀ v ∈ x, v < 64
 | [], x, h, v, hv => by simp only [vals, Option.some.injEq] at h; subst h; cases hv
 | c :: r, x, h, v, hv => by
  simp only [vals] at h
  split at h
  ·cases hr : vals r with
   | none => rw [hr] at h; simp at h
   | some z =>
    rw [hr] at h
    simp only [Option.map_some, Option.some.injEq] at h
    subst h
    cases hv with
    | head => exact valS_lt _
    | tail _ hv => exact vals_lt r z hr v hv
  ·cases h
theorem outAt_beyond (B : List Bool) {i M : Nat} (h : 8 * M ≤ i) : outAt B (i + 1) M = outAt B i M := by
 refine List.ext_getElem (by simp [outAt]) fun j h1 h2 => ?_
 rw [outAt_get, outAt_get]
 rw [outAt_len] at h1
 rw [List.take_drop, List.take_drop, List.take_take, List.take_take, Nat.min_eq_left (by omega), Nat.min_eq_left (by omega)]
theorem tab_sz (vs : List Nat) (n : Nat) (x : AV) (h : x ∈ tab vs n) : x.sz = 1 := by
 rcases List.mem_append.1 h with h | h
 ·obtain ⟨_, _, rfl⟩ := List.mem_map.1 h; rfl
 ·rw [List.eq_of_mem_replicate h]; rfl
theorem E7w {p : Prop} (h : p := by
 clear hm6 hv
 by_cases hin : i / 8 < M
 ·obtain ⟨st1, st2⟩ := outAt_step hbit hin
  rw [beq1_toNat bt hbt2] at st1 st2
  have hy := outAt_get B i M (i / 8) (by omega)
  generalize num (((B.take i).drop (8 * (i / 8))).take 8) = y at st1 st2 hy
  have hLl : ((outAt B i M).map (fun v : Nat => AV.lit (.int .u8 v))).length = M := by rw [List.length_map]; exact hol
  have hLg : ∀ h : i / 8 < ((outAt B i M).map (fun v : Nat => AV.lit (.int .u8 v))).length, ((outAt B i M).map (fun v : Nat => AV.lit (.int .u8 v)))[i / 8] = .lit (.int .u8 y) := fun h => by rw [List.getElem_map, hy]
  have hLs : ((outAt B i M).map (fun v : Nat => AV.lit (.int .u8 v))).set (i / 8) (.lit (.int .u8 (2 * (y : Int) + (bt : Int)))) = (outAt B (i + 1) M).map (fun v : Nat => AV.lit (.int .u8 v)) := by
   rw [st1, List.map_set, show ((2 * y + bt : Nat) : Int) = 2 * (y : Int) + (bt : Int) by omega]
  have hw1 : IntKind.u8.wrap (2 * (y : Int)) = 2 * (y : Int) := by rw [IntKind.wrap_u8]; omega
  have hw2 : IntKind.u8.wrap (2 * (y : Int) + (bt : Int)) = 2 * (y : Int) + (bt : Int) := by rw [IntKind.wrap_u8]; omega
  have hw3 : IntKind.u8.wrap (bt : Int) = (bt : Int) := by rw [IntKind.wrap_u8]; omega
  have hno2 : ∀ j : Nat, 8 * M ≤ j → j < i + 1 → B[j]? ≠ some true := fun j h1 h2 => by omega
  have hLz : AV.szl (((outAt B i M).map (fun v : Nat => AV.lit (.int .u8 v))).take (i / 8)) = i / 8 := by
   rw [AV.szl_uniform _ 1 (fun x hx => by obtain ⟨_, _, rfl⟩ := List.mem_map.1 (List.mem_of_mem_take hx); rfl), List.length_take, hLl]; omega
  clear hy st1 st2 hbit hD hol hno
  generalize (outAt B i M).map (fun v : Nat => AV.lit (.int .u8 v)) = L at *
  generalize hL2 : (outAt B (i + 1) M).map (fun v : Nat => AV.lit (.int .u8 v)) = L2 at *
  generalize hi8 : i / 8 = i8 at *
  refine Wk ?_
  refine ⟨⟨i + 1, by simp (disch := omega) [go_sem, *, -List.reduceReplicate], by simp (disch := omega) [go_sem, *, -List.reduceReplicate], by omega, by simp (disch := omega) [go_sem, *, -List.reduceReplicate], by simp (disch := omega) [go_sem, *, -List.reduceReplicate], by simp (disch := omega) [go_sem, *, -List.reduceReplicate], by simp (disch := omega) [go_sem, *, -List.reduceReplicate], by simp only; omega, (fun id hid => by simp (disch := omega) only [upd_ne, wr_cons, wr_nil]; try exact hlow id hid), hno2⟩, ?_⟩
  simp (disch := omega) [go_sem, *, -List.reduceReplicate]
  omega
 ·have hini : ¬ ((i / 8 : Nat) : Int) < (M : Int) := by omega
  have hLl : ((outAt B i M).map (fun v : Nat => AV.lit (.int .u8 v))).length = M := by rw [List.length_map]; exact hol
  have hb := outAt_beyond B (i := i) (M := M) (by omega)
  have hbc : bt = 0 ∨ bt = 1 := by omega
  rcases hbc with hb0 | hb1
  ·subst hb0
   have hno2 : ∀ j : Nat, 8 * M ≤ j → j < i + 1 → B[j]? ≠ some true := fun j h1 h2 => by
    by_cases hji : j = i
    ·subst hji; rw [hbit]; simp
    ·exact hno j h1 (by omega)
   clear hbit hD hol hno
   rw [← hb] at hO hLl
   clear hb
   generalize hL2 : (outAt B (i + 1) M).map (fun v : Nat => AV.lit (.int .u8 v)) = L at *
   generalize hi8 : i / 8 = i8 at *
   refine Wk ?_
   refine ⟨⟨i + 1, by simp (disch := omega) [go_sem, *, -List.reduceReplicate], by simp (disch := omega) [go_sem, *, -List.reduceReplicate], by omega, by simp (disch := omega) [go_sem, *, -List.reduceReplicate], by simp (disch := omega) [go_sem, *, -List.reduceReplicate], by simp (disch := omega) [go_sem, *, -List.reduceReplicate], by simp (disch := omega) [go_sem, *, -List.reduceReplicate], by simp only; omega, (fun id hid => by simp (disch := omega) only [upd_ne, wr_cons, wr_nil]; try exact hlow id hid), hno2⟩, ?_⟩
   simp (disch := omega) [go_sem, *, -List.reduceReplicate]
   omega
  ·subst hb1
   have hD2 : decS s = ([], 5) := by rw [hD, if_pos (left8_pos (by rw [hbit]; rfl) (by omega))]
   rw [hD2, decAV]
   clear hbit hD hD2 hol hno hb
   generalize (outAt B i M).map (fun v : Nat => AV.lit (.int .u8 v)) = L at *
   generalize hi8 : i / 8 = i8 at *
   exact WL) : p := h
set_option maxHeartbeats 4000000 in
theorem ref_core (s : List UInt8) (hl : s.length ≤ 5462) (k : Nat) :
  ACall Tryz.prog 115 [strAV s] k [] (decAV (decS s)) [] := by
 have h2 : ¬ (5462 : Int) < s.length := by omega
 have hs : strAV s = .lit (.string ⟨s.toArray⟩) := rfl
 rw [hs]
 have hD : decS s = (match vals s with
   | none => ([], 8)
   | some vs => if s.length % 4 = 1 then ([], 3) else if num (left8 (bits6 vs)) ≠ 0 then ([], 5) else (grp8 (bits6 vs), 0)) := by rw [decS, if_neg (by omega)]; try (cases vals s <;> rfl)
 refine Bd Tryz.func115 Tryz.ntmps115 fun σ N hp hpn hk hkn hfree => ?_
 have M : Mut (N + 7) := ⟨⟩
 refine Wk ?_
 refine go_loop (aloop mixed (by kernel_rfl) (fun c => ∃ (u : Nat) (vs : List Nat), c.s 0 = .lit (.string ⟨s.toArray⟩) ∧ c.s 5 = .lit (.int .i64 u) ∧ u ≤ s.length ∧ c.s 4 = .ms (N + 7) 0 1 0 s.length ∧ c.σ (N + 7) = .mrow 0 3 1 (tab vs (s.length - u)) ∧ N + 7 < c.n ∧ (∀ id, id < N → c.σ id = σ id) ∧ vals (s.take u) = some vs)
  (fun c => match c.s 5 with | .lit (.int _ m) => s.length - m.toNat | _ => 0) ⟨0, [], by simp (disch := omega) [go_sem, *, -List.reduceReplicate], by simp (disch := omega) [go_sem, *, -List.reduceReplicate], by omega, by simp (disch := omega) [go_sem, *, -List.reduceReplicate], by simp (disch := omega) [go_sem, *, -List.reduceReplicate]; rw [tab_nil], by simp only; omega, (fun id hid => by simp (disch := omega) only [upd_ne]; try exact hlow id hid), rfl⟩ ?_)
 clear M
 rintro ⟨s1, σ', n'⟩ ⟨u, vs, h0, h5, hu, h4, hR, hRn, hlow, hvs⟩
 simp only at h0 h5 h4 hR hRn hlow
 have hvl := vals_len _ _ hvs
 rw [List.length_take, Nat.min_eq_left hu] at hvl
 by_cases hul : u = s.length
 ·subst hul
  rw [List.take_length] at hvs
  rw [hvs] at hD
  simp only at hD
  rw [Nat.sub_self, tab_done] at hR
  by_cases hm : s.length % 4 = 1
  ·rw [if_pos hm] at hD
   rw [hD, decAV]
   have hmi : (s.length : Int).tmod 4 = 1 := by rw [Int.tmod_eq_emod_of_nonneg (by omega)]; omega
   clear hD hm hvs
   exact WL
  ·rw [if_neg hm] at hD
   have hmi : ((s.length : Int).tmod 4 == 1) = false := by rw [Int.tmod_eq_emod_of_nonneg (by omega), beq_eq_false_iff_ne]; omega
   have hmj : ¬ (s.length : Int).tmod 4 = 1 := by rw [Int.tmod_eq_emod_of_nonneg (by omega)]; omega
   have hB := bits6_len vs
   obtain ⟨B, hBe⟩ : ∃ B, bits6 vs = B := ⟨_, rfl⟩
   rw [hBe] at hD hB
   rw [hvl] at hB
   have hMM : B.length / 8 = 6 * s.length / 8 := by rw [hB]
   have htq : (6 * (s.length : Int)).tdiv 8 = ((6 * s.length / 8 : Nat) : Int) := by rw [Int.tdiv_eq_ediv_of_nonneg (by omega)]; omega
   have hz0 : List.replicate (6 * s.length / 8) (AV.lit (.int .u8 0)) = (outAt B 0 (6 * s.length / 8)).map (fun v : Nat => AV.lit (.int .u8 v)) := by rw [outAt_zero]; simp
   have hMl : 6 * s.length / 8 ≤ 5462 := by omega
   have hMi : 8 * (6 * s.length / 8) ≤ 6 * s.length ∧ 6 * s.length < 8 * (6 * s.length / 8) + 8 := by omega
   generalize 6 * s.length / 8 = M at *
   have MM : Mut (n' + 12) := ⟨⟩
   have hv64s := vals_lt _ _ hvs
   clear hvs hm
   refine Wk ?_
   refine go_loop (aloop mixed (by kernel_rfl) (fun c => ∃ (i : Nat), c.s 0 = .lit (.string ⟨s.toArray⟩) ∧ c.s 8 = .lit (.int .i64 i) ∧ i ≤ 6 * s.length ∧ c.s 4 = .ms (N + 7) 0 1 0 s.length ∧ c.σ (N + 7) = .mrow 0 3 1 (vs.map iv) ∧ c.s 7 = .ms (n' + 12) 0 1 0 M ∧ c.σ (n' + 12) = .mrow 0 5 1 ((outAt B i M).map (fun v : Nat => AV.lit (.int .u8 v))) ∧ n' + 12 < c.n ∧ (∀ id, id < N → c.σ id = σ id) ∧ (∀ j : Nat, 8 * M ≤ j → j < i → B[j]? ≠ some true))
    (fun c => match c.s 8 with | .lit (.int _ m) => 6 * s.length - m.toNat | _ => 0) ⟨0, by simp (disch := omega) [go_sem, *, -List.reduceReplicate], by simp (disch := omega) [go_sem, *, -List.reduceReplicate], by omega, by simp (disch := omega) [go_sem, *, -List.reduceReplicate], by simp (disch := omega) [go_sem, *, -List.reduceReplicate], by simp (disch := omega) [go_sem, *, -List.reduceReplicate], by simp (disch := omega) [go_sem, *, -List.reduceReplicate], by simp only; omega, (fun id hid => by simp (disch := omega) only [upd_ne]; try exact hlow id hid), by omega⟩ ?_)
   clear MM hz0 htq hlow hR h4 h5 h0
   rintro ⟨s1, σ', n2⟩ ⟨i, h0, h8, hi, h4, hR, h7, hO, hRn2, hlow, hno⟩
   simp only at h0 h8 h4 hR h7 hO hRn2 hlow
   have hol := outAt_len B i M
   by_cases hil : i = 6 * s.length
   ·have hD2 : decS s = (grp8 B, 0) := by
     rw [hD, if_neg (fun h => h (left8_zero (fun j h1 h2 => hno j (by omega) (by omega))))]
    have hfull := outAt_full B
    rw [hB, ← hil, show i / 8 = M by omega] at hfull
    have hO' : (outAt B i M).map (fun v : Nat => AV.lit (.int .u8 v)) = (grp8 B).map byteAV := by
     rw [← hfull, List.map_map]
     refine List.map_congr_left fun v hv => ?_
     obtain ⟨j, hj, hjv⟩ := List.getElem_of_mem hv
     rw [outAt_get] at hjv
     have h1 := num_lt (((B.take i).drop (8 * j)).take 8)
     have h2 : 2 ^ (((B.take i).drop (8 * j)).take 8).length ≤ 2 ^ 8 := Nat.pow_le_pow_right (by omega) (by rw [List.length_take]; omega)
     rw [hjv] at h1
     simp only [Function.comp, byteAV]
     rw [UInt8.toNat_ofNat', Nat.mod_eq_of_lt (by omega)]
    rw [hO'] at hO
    rw [hD2, decAV]
    have hgl : (grp8 B).length = M := by rw [grp8_len]; exact hMM
    have hni : ¬ (i : Int) < 6 * (s.length : Int) := by omega
    clear hO' hfull hD2 hD hno hol hil
    generalize grp8 B = g at *
    repeat (first | apply go_nil | apply go_kreg | apply go_kreg0 | apply go_kreg1 | (apply go_kregT; · (first | (simp [addT, CF, CFy, Ind, DisjF]; done) | (simp only [addT, CF, CFy, Ind]; repeat' (first | exact trivial | apply And.intro | exact Or.inl (by decide +kernel) | (refine Or.inr ⟨?_, ?_⟩ <;> (simp; try omega)))))) | apply go_then | apply go_then_exit | apply go_then_ret | apply go_blk | apply go_blk_ret | apply go_blk_here | (apply go_blk_there; · rfl) | apply go_seq | (apply go_region; · (simp only [List.length_cons, List.length_nil, Nat.reduceAdd]; rfl)) | apply go_skip | apply go_block | apply go_scope | apply go_label | apply go_exit | apply go_ret | (apply go_mut; (· assumption); · (simp (disch := omega) [go_sem, *, -List.reduceReplicate]; first | exact ⟨rfl, rfl⟩ | (simp [go_sem, *]; exact ⟨rfl, rfl⟩))) | (apply go_mutP; (· assumption); · (simp (disch := omega) [go_sem, *, -List.reduceReplicate]; try first | rfl | exact ⟨rfl, rfl⟩ | exact ⟨rfl, rfl, rfl⟩)) | (apply go_guard_in; (· rfl); · (simp (disch := omega) [go_sem, *, -List.reduceReplicate]; try first | rfl | omega)) | (apply go_guard_off; (· rfl); · (simp (disch := omega) [go_sem, *, -List.reduceReplicate]; try first | rfl | omega)) | (apply go_guard_no; (· rfl); · (simp (disch := omega) [go_sem, *, -List.reduceReplicate]; try rfl)) | ((first | apply go_move | apply go_assign | apply go_load | apply go_store | apply go_append | apply go_copy | apply go_copy0 | apply go_clear0 | apply go_slice3 | apply go_indexA); · (simp (disch := omega) [go_sem, *, -List.reduceReplicate]; try first | rfl | exact ⟨rfl, rfl⟩ | exact ⟨rfl, rfl, rfl⟩)) | ((first | apply go_loadv | apply go_append0 | apply go_beyond); · (simp (disch := omega) [go_sem, *, -List.reduceReplicate]; try first | rfl | exact ⟨rfl, rfl⟩ | exact ⟨rfl, rfl, rfl⟩)) | (apply go_appself; · (simp (disch := omega) [go_sem, *, -List.reduceReplicate]; try first | rfl | exact ⟨rfl, rfl⟩ | exact ⟨rfl, rfl, rfl⟩)) | ((first | (apply go_appendz; · rfl) | (apply go_new; · rfl) | (apply go_pure; · rfl)); · (simp (disch := omega) [go_sem, *, -List.reduceReplicate]; try first | rfl | exact ⟨rfl, rfl⟩ | exact ⟨rfl, rfl, rfl⟩)) | ((apply go_glob; · assumption); · (simp (disch := omega) [go_sem, *, -List.reduceReplicate]; try first | rfl | exact ⟨rfl, rfl⟩ | exact ⟨rfl, rfl, rfl⟩)) | (apply go_read1; (· rfl); · (simp (disch := omega) [go_sem, *, -List.reduceReplicate]; try first | rfl | exact ⟨rfl, rfl⟩ | exact ⟨rfl, rfl, rfl⟩)) | (apply go_rw1; (· rfl); · (simp (disch := omega) [go_sem, *, -List.reduceReplicate]; try first | rfl | exact ⟨rfl, rfl⟩ | exact ⟨rfl, rfl, rfl⟩)) | (apply go_new1; (· rfl); · (simp (disch := omega) [go_sem, *, -List.reduceReplicate]; try first | rfl | exact ⟨rfl, rfl⟩ | exact ⟨rfl, rfl, rfl⟩)) | (apply go_conv; · (simp (disch := omega) [go_sem, *, -List.reduceReplicate]; try first | rfl | exact ⟨rfl, rfl⟩ | exact ⟨rfl, rfl, rfl⟩)) | ((first | (apply go_new; · rfl) | (apply go_pure; · rfl)); · (simp (disch := omega) [go_sem, *, -List.reduceReplicate]; simp [go_sem, *]; try first | rfl | exact ⟨rfl, rfl⟩)))
    refine go_condF (by simp (disch := omega) [go_sem, *, -List.reduceReplicate]; try first | rfl | omega) ?_
    refine go_freeze 7 (id := n' + 12) (ver := 0) (size := 1) (e := 5) (xs := g.map byteAV) (k := M) (by simp (disch := omega) [go_sem, *, -List.reduceReplicate]) (by simp (disch := omega) [go_sem, *, -List.reduceReplicate]) (by simp (disch := omega) [go_sem, *, -List.reduceReplicate]) ?_
    exact WL
   ·have hii : (i : Int) < 6 * (s.length : Int) := by omega
    have hi6 : i / 6 < vs.length := by omega
    obtain ⟨v, hv⟩ : ∃ v, vs[i / 6] = v := ⟨_, rfl⟩
    have hbit := bits6_get vs i v (by rw [List.getElem?_eq_getElem hi6, hv])
    rw [hBe] at hbit
    have hvm : ∀ h : i / 6 < (vs.map iv).length, (vs.map iv)[i / 6] = .lit (.int .i64 v) := fun _ => by rw [List.getElem_map, hv]; rfl
    have hVl : (vs.map iv).length = s.length := by rw [List.length_map, hvl]
    have hVz : AV.szl ((vs.map iv).take (i / 6)) = i / 6 := by
     rw [AV.szl_uniform _ 1 (fun x hx => by obtain ⟨_, _, rfl⟩ := List.mem_map.1 (List.mem_of_mem_take hx); rfl), List.length_take, List.length_map]; omega
    have hv64 : v < 64 := hv64s v (by rw [← hv]; exact List.getElem_mem hi6)
    have htq6 : (i : Int).tdiv 6 = ((i / 6 : Nat) : Int) := by rw [Int.tdiv_eq_ediv_of_nonneg (by omega)]; omega
    have htq8 : (i : Int).tdiv 8 = ((i / 8 : Nat) : Int) := by rw [Int.tdiv_eq_ediv_of_nonneg (by omega)]; omega
    have hi6s : i / 6 < s.length := by omega
    generalize hj6 : i / 6 = j6 at *
    generalize hVV : vs.map iv = VT at *
    have hmc : i % 6 = 0 ∨ i % 6 = 1 ∨ i % 6 = 2 ∨ i % 6 = 3 ∨ i % 6 = 4 ∨ i % 6 = 5 := by omega
    rcases hmc with hm6 | hm6 | hm6 | hm6 | hm6 | hm6
    ·have htm : (i : Int).tmod 6 = 0 := by rw [Int.tmod_eq_emod_of_nonneg (by omega)]; omega
     rw [hm6] at hbit
     simp only [Nat.reduceSub, Nat.reducePow] at hbit
     have hfd : (v : Int).fdiv 32 = ((v / 32 : Nat) : Int) := by rw [Int.fdiv_eq_ediv_of_nonneg _ (by omega)]; omega
     have hw64 : v / 32 < 64 := by omega
     generalize v / 32 = w at hbit hfd hw64
     have htm2 : (w : Int).tmod 2 = ((w % 2 : Nat) : Int) := by rw [Int.tmod_eq_emod_of_nonneg (by omega)]; omega
     have hbt2 : w % 2 < 2 := by omega
     generalize w % 2 = bt at hbit htm2 hbt2
     exact E7w
    ·have htm : (i : Int).tmod 6 = 1 := by rw [Int.tmod_eq_emod_of_nonneg (by omega)]; omega
     rw [hm6] at hbit
     simp only [Nat.reduceSub, Nat.reducePow] at hbit
     have hfd : (v : Int).fdiv 16 = ((v / 16 : Nat) : Int) := by rw [Int.fdiv_eq_ediv_of_nonneg _ (by omega)]; omega
     have hw64 : v / 16 < 64 := by omega
     generalize v / 16 = w at hbit hfd hw64
     have htm2 : (w : Int).tmod 2 = ((w % 2 : Nat) : Int) := by rw [Int.tmod_eq_emod_of_nonneg (by omega)]; omega
     have hbt2 : w % 2 < 2 := by omega
     generalize w % 2 = bt at hbit htm2 hbt2
     exact E7w
    ·have htm : (i : Int).tmod 6 = 2 := by rw [Int.tmod_eq_emod_of_nonneg (by omega)]; omega
     rw [hm6] at hbit
     simp only [Nat.reduceSub, Nat.reducePow] at hbit
     have hfd : (v : Int).fdiv 8 = ((v / 8 : Nat) : Int) := by rw [Int.fdiv_eq_ediv_of_nonneg _ (by omega)]; omega
     have hw64 : v / 8 < 64 := by omega
     generalize v / 8 = w at hbit hfd hw64
     have htm2 : (w : Int).tmod 2 = ((w % 2 : Nat) : Int) := by rw [Int.tmod_eq_emod_of_nonneg (by omega)]; omega
     have hbt2 : w % 2 < 2 := by omega
     generalize w % 2 = bt at hbit htm2 hbt2
     exact E7w
    ·have htm : (i : Int).tmod 6 = 3 := by rw [Int.tmod_eq_emod_of_nonneg (by omega)]; omega
     rw [hm6] at hbit
     simp only [Nat.reduceSub, Nat.reducePow] at hbit
     have hfd : (v : Int).fdiv 4 = ((v / 4 : Nat) : Int) := by rw [Int.fdiv_eq_ediv_of_nonneg _ (by omega)]; omega
     have hw64 : v / 4 < 64 := by omega
     generalize v / 4 = w at hbit hfd hw64
     have htm2 : (w : Int).tmod 2 = ((w % 2 : Nat) : Int) := by rw [Int.tmod_eq_emod_of_nonneg (by omega)]; omega
     have hbt2 : w % 2 < 2 := by omega
     generalize w % 2 = bt at hbit htm2 hbt2
     exact E7w
    ·have htm : (i : Int).tmod 6 = 4 := by rw [Int.tmod_eq_emod_of_nonneg (by omega)]; omega
     rw [hm6] at hbit
     simp only [Nat.reduceSub, Nat.reducePow] at hbit
     have hfd : (v : Int).fdiv 2 = ((v / 2 : Nat) : Int) := by rw [Int.fdiv_eq_ediv_of_nonneg _ (by omega)]; omega
     have hw64 : v / 2 < 64 := by omega
     generalize v / 2 = w at hbit hfd hw64
     have htm2 : (w : Int).tmod 2 = ((w % 2 : Nat) : Int) := by rw [Int.tmod_eq_emod_of_nonneg (by omega)]; omega
     have hbt2 : w % 2 < 2 := by omega
     generalize w % 2 = bt at hbit htm2 hbt2
     exact E7w
    ·have htm : (i : Int).tmod 6 = 5 := by rw [Int.tmod_eq_emod_of_nonneg (by omega)]; omega
     rw [hm6] at hbit
     simp only [Nat.reduceSub, Nat.reducePow, Nat.div_one] at hbit
     have hfd : (v : Int).fdiv 1 = ((v : Nat) : Int) := by rw [Int.fdiv_eq_ediv_of_nonneg _ (by omega)]; omega
     have hw64 : v < 64 := by omega
     generalize hvw : v = w at hbit hfd hw64 hvm
     have htm2 : (w : Int).tmod 2 = ((w % 2 : Nat) : Int) := by rw [Int.tmod_eq_emod_of_nonneg (by omega)]; omega
     have hbt2 : w % 2 < 2 := by omega
     generalize w % 2 = bt at hbit htm2 hbt2
     exact E7w
 ·have hu2 : u < s.length := by omega
  obtain ⟨x, hx⟩ : ∃ x, s[u] = x := ⟨_, rfl⟩
  have hxl := x.toNat_lt
  have hui : (u : Int) < (s.length : Int) := by omega
  have hts : ∀ v : Int, (tab vs (s.length - u)).set u (.lit (.int .i64 v)) = (tab vs (s.length - u)).set u (.lit (.int .i64 v)) := fun _ => rfl
  have htl := tab_len vs (s.length - u)
  have hsetv : ∀ v : Nat, (tab vs (s.length - u)).set u (.lit (.int .i64 v)) = tab (vs ++ [v]) (s.length - (u + 1)) := fun v => by
   have := tab_set vs (s.length - (u + 1)) v
   rw [hvl, show s.length - (u + 1) + 1 = s.length - u by omega] at this
   exact this
  clear hts
  have hTl : (tab vs (s.length - u)).length = s.length := by omega
  have hTg : ∀ h : u < (tab vs (s.length - u)).length, (tab vs (s.length - u))[u] = .lit (.int .i64 0) := fun h => by
   simp only [tab]; rw [List.getElem_append_right (by simp; omega)]; simp
  have hTz : AV.szl ((tab vs (s.length - u)).take u) = u := by
   rw [AV.szl_uniform _ 1 (fun x hx => tab_sz _ _ x (List.mem_of_mem_take hx)), List.length_take, hTl]; omega
  generalize tab vs (s.length - u) = T at *
  clear htl
  refine Wk ?_
  refine go_loop (aloop mixed (by kernel_rfl) (fun c => ∃ (k : Nat), c.s 0 = .lit (.string ⟨s.toArray⟩) ∧ c.s 5 = .lit (.int .i64 u) ∧ c.s 6 = .lit (.int .i64 k) ∧ k ≤ 64 ∧ c.s 4 = .ms (N + 7) 0 1 0 s.length ∧ c.σ (N + 7) = .mrow 0 3 1 (T.set u (.lit (.int .i64 (found x k)))) ∧ N + 7 < c.n ∧ (∀ id, id < N → c.σ id = σ id))
   (fun c => match c.s 6 with | .lit (.int _ m) => 64 - m.toNat | _ => 0) ⟨0, by simp (disch := omega) [go_sem, *, -List.reduceReplicate], by simp (disch := omega) [go_sem, *, -List.reduceReplicate], by simp (disch := omega) [go_sem, *, -List.reduceReplicate], by omega, by simp (disch := omega) [go_sem, *, -List.reduceReplicate], by simp (disch := omega) [go_sem, *, -List.reduceReplicate]; rw [found_zero], by simp only; omega, (fun id hid => by simp (disch := omega) only [upd_ne]; try exact hlow id hid)⟩ ?_)
  clear hlow hR h4 h0
  rintro ⟨s1, σ', n2⟩ ⟨k, h0, h5, h6, hk, h4, hR, hRn2, hlow⟩
  simp only at h0 h5 h6 h4 hR hRn2 hlow
  have hSz : ∀ w, AV.szl ((T.set u w).take u) = u := fun w => by rw [List.take_set_of_le (Nat.le_refl u)]; exact hTz
  have hSl : ∀ w, (T.set u w).length = s.length := fun w => by rw [List.length_set]; exact hTl
  by_cases hk64 : k = 64
  ·subst hk64
   rw [found_end] at hR
   by_cases hok : (valS x.toNat).2 = true
   ·rw [if_pos hok, hsetv] at hR
    have hsn := vals_snoc hu2 hx hok hvs
    have hgv : ∀ h : u < (tab (vs ++ [(valS x.toNat).1]) (s.length - (u + 1))).length, (tab (vs ++ [(valS x.toNat).1]) (s.length - (u + 1)))[u] = .lit (.int .i64 (valS x.toNat).1) := fun h => by
     simp only [tab]
     rw [List.getElem_append_left (by simp; omega), List.getElem_map, List.getElem_append_right (by omega)]
     simp [iv, hvl]
    have hTz2 : AV.szl ((tab (vs ++ [(valS x.toNat).1]) (s.length - (u + 1))).take u) = u := by
     rw [AV.szl_uniform _ 1 (fun x hx => tab_sz _ _ x (List.mem_of_mem_take hx)), List.length_take, tab_len]; simp; omega
    have hTl2 := tab_len (vs ++ [(valS x.toNat).1]) (s.length - (u + 1))
    rw [List.length_append, hvl, List.length_singleton, show u + 1 + (s.length - (u + 1)) = s.length by omega] at hTl2
    clear hD hsetv hSl hvs
    generalize hT2 : tab (vs ++ [(valS x.toNat).1]) (s.length - (u + 1)) = T2 at *
    have hv0 : ¬ (((valS x.toNat).1 : Nat) : Int) < 0 := by omega
    generalize hvs2 : vs ++ [(valS x.toNat).1] = vs2 at *
    generalize (valS x.toNat).1 = v at hgv hv0
    refine Wk ?_
    refine ⟨⟨u + 1, vs2, by simp (disch := omega) [go_sem, *, -List.reduceReplicate], by simp (disch := omega) [go_sem, *, -List.reduceReplicate], by omega, by simp (disch := omega) [go_sem, *, -List.reduceReplicate], by simp (disch := omega) [go_sem, *, -List.reduceReplicate], by simp only; omega, (fun id hid => by simp (disch := omega) only; try exact hlow id hid), hsn⟩, ?_⟩
    simp (disch := omega) [go_sem, *, -List.reduceReplicate]
    omega
   ·rw [if_neg hok] at hR
    have hbad := vals_bad s u hu2 (by rw [hx]; simpa using hok)
    rw [hbad] at hD
    simp only at hD
    rw [hD, decAV]
    clear hD hsetv hbad hok hvs
    exact WL
  ·have hk2 : k < 64 := by omega
   have hget := alph_get k hk2
   have hby : byteAV (alph k) = .lit (.int .u8 (alph k).toNat) := rfl
   by_cases hhit : alph k = x
   ·have hf := found_hit x k hk2 hhit
    rw [hhit] at hget hby
    clear hD hsetv hhit
    generalize found x k = fk at *
    generalize hfk2 : found x (k + 1) = fk2 at *
    refine Wk ?_
    refine ⟨⟨k + 1, by simp (disch := omega) [go_sem, *, -List.reduceReplicate], by simp (disch := omega) [go_sem, *, -List.reduceReplicate], by simp (disch := omega) [go_sem, *, -List.reduceReplicate], by omega, by simp (disch := omega) [go_sem, *, -List.reduceReplicate], by simp (disch := omega) [go_sem, *, -List.reduceReplicate], by simp only; omega, (fun id hid => by simp (disch := omega) only [upd_ne]; try exact hlow id hid)⟩, ?_⟩
    simp (disch := omega) [go_sem, *, -List.reduceReplicate]
    omega
   ·have hf := found_miss x k hk2 hhit
    have hne : ¬ (alph k).toNat = x.toNat := fun h => hhit (UInt8.toNat_inj.1 h)
    have hnb : (((alph k).toNat : Int) == (x.toNat : Int)) = false := by rw [beq_eq_false_iff_ne]; omega
    clear hD hsetv hhit
    generalize alph k = ch at *
    generalize found x k = fk at *
    generalize hfk2 : found x (k + 1) = fk2 at *
    refine Wk ?_
    refine ⟨⟨k + 1, by simp (disch := omega) [go_sem, *, -List.reduceReplicate], by simp (disch := omega) [go_sem, *, -List.reduceReplicate], by simp (disch := omega) [go_sem, *, -List.reduceReplicate], by omega, by simp (disch := omega) [go_sem, *, -List.reduceReplicate], by simp (disch := omega) [go_sem, *, -List.reduceReplicate], by simp only; omega, (fun id hid => by simp (disch := omega) only; try exact hlow id hid)⟩, ?_⟩
    simp (disch := omega) [go_sem, *, -List.reduceReplicate]
    omega
theorem ref_spec (s : List UInt8) (hl : s.length ≤ 9223372036854775807) (k : Nat) :
  ACall Tryz.prog 115 [strAV s] k [] (decAV (decS s)) [] := by
 by_cases h : s.length ≤ 5462
 ·exact ref_core s h k
 ·rw [decS, if_pos (by omega)]; exact ref_long s (by omega) hl k
end Go.Proofs.YtemmlldpmgfblaaGreatDoor

namespace Go.Proofs.YtemmlldpmgfblaaGreatDoor
open Go.Ab
theorem chunks6_len_eq (l : List Bool) : (chunks6 l).length = (l.length + 5) / 6 := by
 induction h : l.length using Nat.strongRecOn generalizing l with
 | _ n ih =>
  rw [chunks6]
  split
  ·rename_i h0; subst h0; simp at h; subst h; rfl
  ·rename_i hne
   have h0 : 0 < l.length := List.length_pos_iff.2 hne
   have hd : (l.drop 6).length = l.length - 6 := List.length_drop
   have := ih (l.drop 6).length (by omega) (l.drop 6) rfl
   simp only [List.length_cons]; omega
theorem textS_len_eq (b : List UInt8) : (textS b).length = (8 * b.length + 5) / 6 := by
 rw [textS, List.length_map, chunks6_len_eq, bitsB_len]
theorem decS_len (s : List UInt8) : (decS s).1.length ≤ 5000 := by
 unfold decS
 split
 ·simp
 ·split
  ·simp
  ·rename_i vs hv
   have := vals_len _ _ hv
   split
   ·simp
   ·split
    ·simp
    ·simp only [grp8_len, bits6_len]; omega

end Go.Proofs.YtemmlldpmgfblaaGreatDoor

namespace Go.Proofs.YtemmlldpmgfblaaGreatDoor
open Go.Ab
attribute [local irreducible] Go.Ab.tyAV Go.Ab.aw Go.Ab.aops Go.Ab.kReg Go.Ab.aThen Go.Ab.aBlk Go.Ab.acond Go.Ab.aguard Go.Ab.astep Go.Ab.AStepX Go.Ab.aRet
def parB (s : List UInt8) : Bu × Nat := if (decS s).2 ≠ 0 then (bu0, (decS s).2) else decB (decS s).1
theorem BParse_spec (s : List UInt8) (hs : s.length ≤ 9223372036854775807) (d k : Nat) : ACall Tryz.prog 46 [strAV s] k [(d, bitsG)] (decBAV (parB s)) [] := by
 have c1 := dec_spec s hs
 have hl := decS_len s
 unfold parB
 generalize decS s = R at *
 obtain ⟨x, e⟩ := R
 simp only [decAV] at *
 by_cases he : e ≠ 0
 ·rw [if_pos he]
  have he' : ((e : Int) != 0) = true := by simp; omega
  simp only [decBAV]
  rw [bu0_eq]
  refine Bd Tryz.func46 Tryz.ntmps46 fun σ N hp hpn hk hkn hfree => ?_
  obtain ⟨hd, hdn⟩ := HD0 hp hpn; clear hp hpn
  have hcs := And.intro c1 True.intro
  clear c1
  exact WD
 ·obtain rfl : e = 0 := by omega
  rw [if_neg he]
  have c2 := bDec_spec x (by omega) d
  generalize decB x = Q at *
  obtain ⟨B, f⟩ := Q
  simp only [decBAV] at *
  refine Bd Tryz.func46 Tryz.ntmps46 fun σ N hp hpn hk hkn hfree => ?_
  obtain ⟨hd, hdn⟩ := HD0 hp hpn; clear hp hpn
  have hcs := And.intro c1 (And.intro c2 True.intro)
  clear c1 c2
  exact WD
theorem RParse_spec (s : List UInt8) (hs : s.length ≤ 9223372036854775807) (k : Nat) : ACall Tryz.prog 47 [strAV s] k [] (decBAV (parB s)) [] := by
 have c1 := ref_spec s hs
 have hl := decS_len s
 unfold parB
 generalize decS s = R at *
 obtain ⟨x, e⟩ := R
 simp only [decAV] at *
 by_cases he : e ≠ 0
 ·rw [if_pos he]
  have he' : ((e : Int) != 0) = true := by simp; omega
  simp only [decBAV]
  rw [bu0_eq]
  refine Bd Tryz.func47 Tryz.ntmps47 fun σ N hp hpn hk hkn hfree => ?_
  have hcs := And.intro c1 True.intro
  clear c1
  exact WD
 ·obtain rfl : e = 0 := by omega
  rw [if_neg he]
  have c2 := rbDec_spec x (by omega)
  generalize decB x = Q at *
  obtain ⟨B, f⟩ := Q
  simp only [decBAV] at *
  refine Bd Tryz.func47 Tryz.ntmps47 fun σ N hp hpn hk hkn hfree => ?_
  have hcs := And.intro c1 (And.intro c2 True.intro)
  clear c1 c2
  exact WD
theorem parB_sm (s : List UInt8) : BuSm (parB s).1 := by
 unfold parB
 split
 ·exact bu0_sm
 ·exact decB_sm _

def encT (b : List UInt8) : List UInt8 × Nat := if 4096 < b.length then ([], 2) else (textS b, 0)
theorem EncT_spec (b : List UInt8) (hl : b.length ≤ 9223372036854775807) (k : Nat) :
  ACall Tryz.prog 63 [.slice none (b.map byteAV)] k [] (.tup [strAV (encT b).1, .lit (.int .i64 (encT b).2)]) [] := by
 unfold encT
 by_cases h : 4096 < b.length
 ·rw [if_pos h]; exact enc_long b h hl k
 ·rw [if_neg h]; exact enc_core b (by omega) k
theorem TextT_spec (b : List UInt8) (hl : b.length ≤ 9223372036854775807) (k : Nat) :
  ACall Tryz.prog 48 [.slice none (b.map byteAV)] k [] (.tup [strAV (encT b).1, .lit (.int .i64 (encT b).2)]) [] := by
 unfold encT
 by_cases h : 4096 < b.length
 ·rw [if_pos h]; exact text_long b h hl k
 ·rw [if_neg h]; exact text_core b (by omega) k

def txtB (b : Bu) : List UInt8 × Nat := if (encBS b).2 = 0 then encT (encBS b).1 else ([], (encBS b).2)
theorem encBS_len (b : Bu) (hb : BuIn b) : (encBS b).1.length ≤ 4096 := by
 unfold encBS
 split
 ·rename_i h; exact (chk_valid hb h).2
 ·simp
theorem BText_spec (b : Bu) (hb : BuIn b) (d k : Nat) : ACall Tryz.prog 22 [buAV b] k [(d, bitsG)] (.tup [strAV (txtB b).1, .lit (.int .i64 (txtB b).2)]) [] := by
 have c1 := EncodeB_spec b hb d
 have hl := encBS_len b hb
 unfold txtB
 generalize encBS b = X at *
 obtain ⟨x, e⟩ := X
 unfold encAV at c1
 simp only at c1 hl ⊢
 have c2 := EncT_spec x (by omega)
 clear hb
 by_cases h : e = 0
 ·subst h
  rw [if_pos rfl]
  generalize encT x = Y at *
  obtain ⟨y, f⟩ := Y
  refine Bd Tryz.func22 Tryz.ntmps22 fun σ N hp hpn hk hkn hfree => ?_
  obtain ⟨hd, hdn⟩ := HD0 hp hpn; clear hp hpn
  have hcs := And.intro c1 (And.intro c2 True.intro)
  clear c1 c2
  exact W0
 ·have hei : ((e : Int) != 0) = true := by simp; omega
  rw [if_neg h]
  clear c2
  have hz : strAV [] = .lit (.string ⟨#[]⟩) := rfl
  simp only
  refine Bd Tryz.func22 Tryz.ntmps22 fun σ N hp hpn hk hkn hfree => ?_
  obtain ⟨hd, hdn⟩ := HD0 hp hpn; clear hp hpn
  have hcs := And.intro c1 True.intro
  clear c1
  exact W0
theorem RText_spec (b : Bu) (hb : BuIn b) (k : Nat) : ACall Tryz.prog 23 [buAV b] k [] (.tup [strAV (txtB b).1, .lit (.int .i64 (txtB b).2)]) [] := by
 have c1 := refEncB_spec b hb
 have hl := encBS_len b hb
 unfold txtB
 generalize encBS b = X at *
 obtain ⟨x, e⟩ := X
 unfold encAV at c1
 simp only at c1 hl ⊢
 have c2 := TextT_spec x (by omega)
 clear hb
 by_cases h : e = 0
 ·subst h
  rw [if_pos rfl]
  generalize encT x = Y at *
  obtain ⟨y, f⟩ := Y
  refine Bd Tryz.func23 Tryz.ntmps23 fun σ N hp hpn hk hkn hfree => ?_
  have hcs := And.intro c1 (And.intro c2 True.intro)
  clear c1 c2
  exact W0
 ·have hei : ((e : Int) != 0) = true := by simp; omega
  rw [if_neg h]
  clear c2
  have hz : strAV [] = .lit (.string ⟨#[]⟩) := rfl
  simp only
  refine Bd Tryz.func23 Tryz.ntmps23 fun σ N hp hpn hk hkn hfree => ?_
  have hcs := And.intro c1 True.intro
  clear c1
  exact W0
end Go.Proofs.YtemmlldpmgfblaaGreatDoor
