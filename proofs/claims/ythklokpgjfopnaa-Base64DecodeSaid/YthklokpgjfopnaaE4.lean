/- base64: what a text is read as (plain). -/
import Derived.Test.YthklokpgjfopnaaE3
namespace Go.Proofs.Ythklokpgjfopnaa
open Go.Ab

def vals : List UInt8 → Option (List Nat)
  | [] => some []
  | c :: r => if (valS c.toNat).2 = true then (vals r).map ((valS c.toNat).1 :: ·) else none
def bits6 (vs : List Nat) : List Bool := vs.flatMap (bitsN 6)
theorem bits6_append (a b : List Nat) : bits6 (a ++ b) = bits6 a ++ bits6 b := by simp [bits6]
theorem bits6_one (v : Nat) : bits6 [v] = bitsN 6 v := by simp [bits6]
theorem bits6_cons (v : Nat) (r : List Nat) : bits6 (v :: r) = bitsN 6 v ++ bits6 r := by simp [bits6]
theorem bits6_len (vs : List Nat) : (bits6 vs).length = 6 * vs.length := by
  induction vs with
  | nil => rfl
  | cons v r ih => rw [bits6_cons, List.length_append, bitsN_len, ih, List.length_cons]; omega

def grp8 (l : List Bool) : List UInt8 := if 8 ≤ l.length then UInt8.ofNat (num (l.take 8)) :: grp8 (l.drop 8) else []
termination_by l.length
decreasing_by simp only [List.length_drop]; omega
def left8 (l : List Bool) : List Bool := if 8 ≤ l.length then left8 (l.drop 8) else l
termination_by l.length
decreasing_by simp only [List.length_drop]; omega
theorem grp8_small {l : List Bool} (h : l.length < 8) : grp8 l = [] := by rw [grp8, if_neg (by omega)]
theorem left8_small {l : List Bool} (h : l.length < 8) : left8 l = l := by rw [left8, if_neg (by omega)]
theorem grp8_big {l : List Bool} (h : 8 ≤ l.length) : grp8 l = UInt8.ofNat (num (l.take 8)) :: grp8 (l.drop 8) := by rw [grp8, if_pos h]
theorem left8_big {l : List Bool} (h : 8 ≤ l.length) : left8 l = left8 (l.drop 8) := by rw [left8, if_pos h]
theorem grp8_append (l x : List Bool) : grp8 (l ++ x) = grp8 l ++ grp8 (left8 l ++ x) ∧ left8 (l ++ x) = left8 (left8 l ++ x) := by
  induction h : l.length using Nat.strongRecOn generalizing l with
  | _ n ih =>
    by_cases h8 : 8 ≤ l.length
    · have hd : (l.drop 8).length = l.length - 8 := List.length_drop
      have := ih (l.drop 8).length (by omega) (l.drop 8) rfl
      rw [grp8_big h8, left8_big h8, grp8_big (l := l ++ x) (by rw [List.length_append]; omega), left8_big (l := l ++ x) (by rw [List.length_append]; omega), List.take_append_of_le_length h8, List.drop_append_of_le_length h8, this.1, this.2]
      exact ⟨rfl, rfl⟩
    · rw [grp8_small (l := l) (by omega), left8_small (l := l) (by omega)]; exact ⟨rfl, rfl⟩
theorem left8_len (l : List Bool) : (left8 l).length < 8 ∧ (left8 l).length = l.length % 8 := by
  induction h : l.length using Nat.strongRecOn generalizing l with
  | _ n ih =>
    by_cases h8 : 8 ≤ l.length
    · have hd : (l.drop 8).length = l.length - 8 := List.length_drop
      have := ih (l.drop 8).length (by omega) (l.drop 8) rfl
      rw [left8_big h8]; omega
    · rw [left8_small (by omega)]; omega
theorem grp8_len (l : List Bool) : (grp8 l).length = l.length / 8 := by
  induction h : l.length using Nat.strongRecOn generalizing l with
  | _ n ih =>
    by_cases h8 : 8 ≤ l.length
    · have hd : (l.drop 8).length = l.length - 8 := List.length_drop
      have := ih (l.drop 8).length (by omega) (l.drop 8) rfl
      rw [grp8_big h8, List.length_cons]; omega
    · rw [grp8_small (by omega), List.length_nil]; omega

theorem vals_append : ∀ (a b : List UInt8) (x y : List Nat), vals a = some x → vals b = some y → vals (a ++ b) = some (x ++ y)
  | [], b, x, y, h1, h2 => by simp only [vals, Option.some.injEq] at h1; subst h1; exact h2
  | c :: r, b, x, y, h1, h2 => by
    simp only [vals] at h1
    split at h1
    · rename_i hc
      cases hr : vals r with
      | none => rw [hr] at h1; simp at h1
      | some z =>
        rw [hr] at h1
        simp only [Option.map_some, Option.some.injEq] at h1
        subst h1
        simp only [List.cons_append, vals, if_pos hc, vals_append r b z y hr h2, Option.map_some]
    · cases h1
theorem vals_len : ∀ (a : List UInt8) (x : List Nat), vals a = some x → x.length = a.length
  | [], x, h => by simp only [vals, Option.some.injEq] at h; subst h; rfl
  | c :: r, x, h => by
    simp only [vals] at h
    split at h
    · cases hr : vals r with
      | none => rw [hr] at h; simp at h
      | some z =>
        rw [hr] at h
        simp only [Option.map_some, Option.some.injEq] at h
        subst h
        simp [vals_len r z hr]
    · cases h
theorem vals_bad : ∀ (a : List UInt8) (u : Nat) (h : u < a.length), (valS (a[u]).toNat).2 = false → vals a = none
  | c :: r, 0, h, hb => by simp only [List.getElem_cons_zero] at hb; simp [vals, hb]
  | c :: r, u + 1, h, hb => by
    simp only [List.getElem_cons_succ] at hb
    have := vals_bad r u (by simpa using h) hb
    simp [vals, this]
theorem vals_snoc {s : List UInt8} {u : Nat} {c : UInt8} {vs : List Nat} (h : u < s.length) (hx : s[u] = c) (hc : (valS c.toNat).2 = true) (hv : vals (s.take u) = some vs) : vals (s.take (u + 1)) = some (vs ++ [(valS c.toNat).1]) := by
  rw [List.take_add_one, List.getElem?_eq_getElem h, hx]
  exact vals_append _ _ _ _ hv (by simp [vals, hc])

/-- What a text is read as. -/
def decS (s : List UInt8) : List UInt8 × Nat :=
  if 5462 < s.length then ([], 2) else match vals s with
  | none => ([], 8)
  | some vs => if s.length % 4 = 1 then ([], 3) else if num (left8 (bits6 vs)) ≠ 0 then ([], 5) else (grp8 (bits6 vs), 0)
def decAV (r : List UInt8 × Nat) : AV := .tup [.slice none (r.1.map byteAV), .lit (.int .i64 r.2)]

/-- One more value: what is left, and what is put out. -/
theorem push6_small {p : List Bool} {v : Nat} (hv : v < 64) (h : p.length + 6 < 8) : grp8 (p ++ bitsN 6 v) = [] ∧ left8 (p ++ bitsN 6 v) = p ++ bitsN 6 v ∧ num (p ++ bitsN 6 v) = num p * 64 + v := by
  have hl : (p ++ bitsN 6 v).length = p.length + 6 := by rw [List.length_append, bitsN_len]
  refine ⟨grp8_small (by omega), left8_small (by omega), ?_⟩
  rw [num_append, bitsN_len, num_bitsN, Nat.mod_eq_of_lt (by exact hv)]
theorem push6_big {p : List Bool} {v n : Nat} (hv : v < 64) (h : p.length + 6 = n + 8) (hn : n < 8) : grp8 (p ++ bitsN 6 v) = [UInt8.ofNat ((num p * 64 + v) / 2 ^ n)] ∧ left8 (p ++ bitsN 6 v) = (p ++ bitsN 6 v).drop 8 ∧ num ((p ++ bitsN 6 v).drop 8) = (num p * 64 + v) % 2 ^ n ∧ (num p * 64 + v) / 2 ^ n < 256 := by
  have hl : (p ++ bitsN 6 v).length = n + 8 := by rw [List.length_append, bitsN_len]; exact h
  have hq : num (p ++ bitsN 6 v) = num p * 64 + v := by rw [num_append, bitsN_len, num_bitsN, Nat.mod_eq_of_lt (by exact hv)]
  generalize p ++ bitsN 6 v = q at *
  have hd : (q.drop 8).length = n := by rw [List.length_drop]; omega
  have h1 := num_append (q.take 8) (q.drop 8)
  rw [List.take_append_drop, hd, hq] at h1
  have h2 := num_lt (q.drop 8)
  have h3 := num_lt (q.take 8)
  rw [hd] at h2
  rw [List.length_take, hl, show min 8 (n + 8) = 8 by omega] at h3
  have hp : 0 < 2 ^ n := Nat.two_pow_pos _
  have e1 : (num p * 64 + v) / 2 ^ n = num (q.take 8) := by rw [h1, Nat.mul_comm, Nat.mul_add_div hp, Nat.div_eq_of_lt h2]; rfl
  have e2 : (num p * 64 + v) % 2 ^ n = num (q.drop 8) := by rw [h1, Nat.mul_comm, Nat.mul_add_mod, Nat.mod_eq_of_lt h2]
  refine ⟨?_, ?_, e2.symm, by rw [e1]; exact h3⟩
  · rw [grp8_big (by omega), grp8_small (by omega), e1]
  · rw [left8_big (by omega), left8_small (by omega)]
end Go.Proofs.Ythklokpgjfopnaa
