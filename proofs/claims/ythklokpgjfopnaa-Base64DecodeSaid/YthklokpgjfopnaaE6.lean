/- base64: the specified reading, bit by bit (plain). -/
import Derived.Test.YthklokpgjfopnaaE5
namespace Go.Proofs.Ythklokpgjfopnaa
open Go.Ab

theorem grp8_eq (B : List Bool) : grp8 B = (List.range (B.length / 8)).map (fun j => UInt8.ofNat (num ((B.drop (8 * j)).take 8))) := by
  induction h : B.length using Nat.strongRecOn generalizing B with
  | _ n ih =>
    by_cases h8 : 8 ≤ B.length
    · have hd : (B.drop 8).length = B.length - 8 := List.length_drop
      rw [grp8_big h8, ih (B.drop 8).length (by omega) (B.drop 8) rfl, hd, ← h, show B.length / 8 = (B.length - 8) / 8 + 1 by omega, List.range_succ_eq_map, List.map_cons, List.map_map]
      simp only [Nat.mul_zero, List.drop_zero]
      congr 1
      refine List.map_congr_left fun j _ => ?_
      rw [List.drop_drop]
      simp only [Function.comp, Nat.succ_eq_add_one]
      rw [show 8 + 8 * j = 8 * (j + 1) by omega]
    · rw [grp8_small (by omega), show n / 8 = 0 by omega]; rfl
theorem left8_eq (B : List Bool) : left8 B = B.drop (8 * (B.length / 8)) := by
  induction h : B.length using Nat.strongRecOn generalizing B with
  | _ n ih =>
    by_cases h8 : 8 ≤ B.length
    · have hd : (B.drop 8).length = B.length - 8 := List.length_drop
      rw [left8_big h8, ih (B.drop 8).length (by omega) (B.drop 8) rfl, hd, List.drop_drop, ← h]
      congr 1; omega
    · rw [left8_small (by omega), show 8 * (n / 8) = 0 by omega, List.drop_zero]

def outAt (B : List Bool) (i M : Nat) : List Nat := (List.range M).map fun j => num (((B.take i).drop (8 * j)).take 8)
theorem outAt_len (B : List Bool) (i M : Nat) : (outAt B i M).length = M := by simp [outAt]
theorem outAt_zero (B : List Bool) (M : Nat) : outAt B 0 M = List.replicate M 0 := by
  refine List.ext_getElem (by simp [outAt]) fun j h1 h2 => ?_
  simp [outAt, num_nil]
theorem outAt_full (B : List Bool) : (outAt B B.length (B.length / 8)).map UInt8.ofNat = grp8 B := by
  rw [grp8_eq, outAt, List.map_map, List.take_length]; rfl
theorem outAt_get (B : List Bool) (i M j : Nat) (h : j < (outAt B i M).length) : (outAt B i M)[j] = num (((B.take i).drop (8 * j)).take 8) := by
  simp [outAt]
theorem outAt_step {B : List Bool} {i M : Nat} {b : Bool} (hB : B[i]? = some b) (h : i / 8 < M) : outAt B (i + 1) M = (outAt B i M).set (i / 8) (2 * num (((B.take i).drop (8 * (i / 8))).take 8) + b.toNat) ∧ 2 * num (((B.take i).drop (8 * (i / 8))).take 8) + b.toNat < 256 := by
  have hi : i < B.length := by
    rcases Nat.lt_or_ge i B.length with h | h
    · exact h
    · rw [List.getElem?_eq_none h] at hB; cases hB
  have ht : B.take (i + 1) = B.take i ++ [b] := by rw [List.take_add_one, hB]; rfl
  have hl : (B.take i).length = i := by rw [List.length_take]; omega
  have hown : ((B.take (i + 1)).drop (8 * (i / 8))).take 8 = ((B.take i).drop (8 * (i / 8))).take 8 ++ [b] := by
    rw [ht, List.drop_append_of_le_length (by omega)]
    have hl2 : ((B.take i).drop (8 * (i / 8))).length = i % 8 := by rw [List.length_drop, hl]; omega
    rw [List.take_of_length_le (i := 8) (l := (B.take i).drop (8 * (i / 8)) ++ [b]) (by rw [List.length_append, hl2]; simp; omega), List.take_of_length_le (i := 8) (l := (B.take i).drop (8 * (i / 8))) (by omega)]
  constructor
  · refine List.ext_getElem (by simp [outAt]) fun j h1 h2 => ?_
    rw [outAt_get]
    rw [List.getElem_set]
    split
    · rename_i hj
      subst hj
      rw [hown, num_snoc]
    · rename_i hj
      rw [outAt_get, ht]
      by_cases hlt : j < i / 8
      · rw [List.drop_append_of_le_length (by omega), List.take_append_of_le_length (by rw [List.length_drop, hl]; omega)]
      · rw [show (B.take i ++ [b]).drop (8 * j) = [] from List.drop_eq_nil_of_le (by rw [List.length_append, hl]; simp; omega), show (B.take i).drop (8 * j) = [] from List.drop_eq_nil_of_le (by omega)]
  · rw [← num_snoc, ← hown]
    have h1 := num_lt (((B.take (i + 1)).drop (8 * (i / 8))).take 8)
    have h2 : 2 ^ (((B.take (i + 1)).drop (8 * (i / 8))).take 8).length ≤ 2 ^ 8 := Nat.pow_le_pow_right (by omega) (by rw [List.length_take]; omega)
    omega
theorem bits6_get (vs : List Nat) : ∀ (i v : Nat), vs[i / 6]? = some v → (bits6 vs)[i]? = some (v / 2 ^ (5 - i % 6) % 2 == 1) := by
  induction vs with
  | nil => intro i x h; simp at h
  | cons y r ih =>
    intro i x h
    rw [bits6_cons]
    by_cases hi : i < 6
    · rw [show i / 6 = 0 by omega, List.getElem?_cons_zero] at h
      cases h
      rw [List.getElem?_append_left (by rw [bitsN_len]; exact hi), bitsN_get _ 6 i hi, show i % 6 = i by omega]
    · rw [List.getElem?_append_right (by rw [bitsN_len]; omega), bitsN_len]
      obtain ⟨j, rfl⟩ : ∃ j, i = j + 6 := ⟨i - 6, by omega⟩
      rw [show (j + 6) / 6 = j / 6 + 1 by omega, List.getElem?_cons_succ] at h
      rw [show j + 6 - 6 = j by omega, ih j x h, show (j + 6) % 6 = j % 6 by omega]
theorem num_pos : ∀ (l : List Bool) (j : Nat), l[j]? = some true → num l ≠ 0
  | [], j, h => by simp at h
  | b :: r, 0, h => by
    simp only [List.getElem?_cons_zero, Option.some.injEq] at h
    subst h
    rw [num_cons]
    have : 0 < 2 ^ r.length := Nat.two_pow_pos _
    simp only [Bool.toNat_true]; omega
  | b :: r, j + 1, h => by
    rw [List.getElem?_cons_succ] at h
    have := num_pos r j h
    rw [num_cons]; omega
theorem num_zero : ∀ (l : List Bool), (∀ j : Nat, l[j]? ≠ some true) → num l = 0
  | [], _ => rfl
  | b :: r, h => by
    have hb : b = false := by
      have := h 0
      cases b
      · rfl
      · simp at this
    rw [num_cons, num_zero r (fun j => by have := h (j + 1); rwa [List.getElem?_cons_succ] at this), hb]; simp
theorem left8_pos {B : List Bool} {i : Nat} (h : B[i]? = some true) (hi : 8 * (B.length / 8) ≤ i) : num (left8 B) ≠ 0 := by
  rw [left8_eq]
  refine num_pos _ (i - 8 * (B.length / 8)) ?_
  rw [List.getElem?_drop, show 8 * (B.length / 8) + (i - 8 * (B.length / 8)) = i by omega, h]
theorem left8_zero {B : List Bool} (h : ∀ i : Nat, 8 * (B.length / 8) ≤ i → i < B.length → B[i]? ≠ some true) : num (left8 B) = 0 := by
  rw [left8_eq]
  refine num_zero _ fun j hj => ?_
  rw [List.getElem?_drop] at hj
  rcases Nat.lt_or_ge (8 * (B.length / 8) + j) B.length with h1 | h1
  · exact h _ (by omega) h1 hj
  · rw [List.getElem?_eq_none h1] at hj; cases hj

theorem alph_valS : ∀ (x : Fin 256) (k : Fin 64), (alph k).toNat = x ↔ (valS x).2 = true ∧ (valS x).1 = k := by decide +kernel
theorem alph_val (x : UInt8) (k : Nat) (hk : k < 64) : alph k = x ↔ (valS x.toNat).2 = true ∧ (valS x.toNat).1 = k := by
  have := alph_valS ⟨x.toNat, x.toNat_lt⟩ ⟨k, hk⟩
  simp only at this
  rw [← this]
  exact ⟨fun h => by rw [h], fun h => UInt8.toNat_inj.1 h⟩
/-- What the search has found after the first k characters. -/
def found (x : UInt8) (k : Nat) : Int := if (valS x.toNat).2 = true ∧ (valS x.toNat).1 < k then (valS x.toNat).1 else -1
theorem found_zero (x : UInt8) : found x 0 = -1 := by rw [found, if_neg (by omega)]
theorem found_hit (x : UInt8) (k : Nat) (hk : k < 64) (h : alph k = x) : found x (k + 1) = k := by
  have := (alph_val x k hk).1 h
  rw [found, if_pos ⟨this.1, by omega⟩, this.2]
theorem found_miss (x : UInt8) (k : Nat) (hk : k < 64) (h : ¬ alph k = x) : found x (k + 1) = found x k := by
  have := fun h' => h ((alph_val x k hk).2 h')
  unfold found
  by_cases h2 : (valS x.toNat).2 = true
  · have h3 : ¬ (valS x.toNat).1 = k := fun e => this ⟨h2, e⟩
    by_cases h4 : (valS x.toNat).1 < k
    · rw [if_pos ⟨h2, by omega⟩, if_pos ⟨h2, h4⟩]
    · rw [if_neg (fun h => by omega), if_neg (fun h => by omega)]
  · rw [if_neg (fun h => h2 h.1), if_neg (fun h => h2 h.1)]
theorem found_end (x : UInt8) : found x 64 = if (valS x.toNat).2 = true then ((valS x.toNat).1 : Int) else -1 := by
  have := valS_lt x.toNat
  unfold found
  by_cases h2 : (valS x.toNat).2 = true
  · rw [if_pos ⟨h2, this⟩, if_pos h2]
  · rw [if_neg (fun h => h2 h.1), if_neg h2]

def iv (v : Nat) : AV := .lit (.int .i64 v)
def tab (vs : List Nat) (n : Nat) : List AV := vs.map iv ++ List.replicate n (.lit (.int .i64 0))
theorem tab_set (vs : List Nat) (n v : Nat) : (tab vs (n + 1)).set vs.length (.lit (.int .i64 v)) = tab (vs ++ [v]) n := by
  rw [tab, List.set_append_right _ _ (by simp)]
  simp [tab, List.replicate_succ, iv]
theorem tab_len (vs : List Nat) (n : Nat) : (tab vs n).length = vs.length + n := by simp [tab]
theorem tab_done (vs : List Nat) : tab vs 0 = vs.map iv := by simp [tab]
theorem tab_nil (n : Nat) : tab [] n = List.replicate n (.lit (.int .i64 0)) := by simp [tab]
end Go.Proofs.Ythklokpgjfopnaa
