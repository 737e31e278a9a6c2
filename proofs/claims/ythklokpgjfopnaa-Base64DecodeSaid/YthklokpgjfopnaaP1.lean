/- Lists of bits, for base64: plain laws. -/
import Derived.Test.YthklokpgjfopnaaC5
namespace Go.Ab

def bitsN : Nat → Nat → List Bool
  | 0, _ => []
  | n + 1, v => (v / 2 ^ n % 2 == 1) :: bitsN n v
def numA (a : Nat) (l : List Bool) : Nat := l.foldl (fun a b => 2 * a + b.toNat) a
def num (l : List Bool) : Nat := numA 0 l
theorem numA_eq (l : List Bool) : ∀ a, numA a l = a * 2 ^ l.length + num l := by
  induction l with
  | nil => intro a; simp [num, numA]
  | cons b r ih =>
    intro a
    have h1 : numA a (b :: r) = numA (2 * a + b.toNat) r := rfl
    have h2 : num (b :: r) = numA (2 * 0 + b.toNat) r := rfl
    rw [h1, h2, ih, ih (2 * 0 + b.toNat), List.length_cons, Nat.pow_succ, Nat.add_mul, Nat.mul_zero, Nat.zero_add, Nat.mul_comm 2 a, Nat.mul_assoc, Nat.mul_comm 2]
    omega
theorem num_nil : num [] = 0 := rfl
theorem num_cons (b : Bool) (r : List Bool) : num (b :: r) = b.toNat * 2 ^ r.length + num r := by
  have h2 : num (b :: r) = numA (2 * 0 + b.toNat) r := rfl
  rw [h2, numA_eq, Nat.mul_zero, Nat.zero_add]
theorem num_append (a b : List Bool) : num (a ++ b) = num a * 2 ^ b.length + num b := by
  have : num (a ++ b) = numA (num a) b := by simp [num, numA]
  rw [this, numA_eq]
theorem num_lt (l : List Bool) : num l < 2 ^ l.length := by
  induction l with
  | nil => simp [num, numA]
  | cons b r ih =>
    rw [num_cons, List.length_cons, Nat.pow_succ]
    have : b.toNat ≤ 1 := by cases b <;> simp
    have : b.toNat * 2 ^ r.length ≤ 1 * 2 ^ r.length := Nat.mul_le_mul_right _ this
    omega
theorem bitsN_len (n v : Nat) : (bitsN n v).length = n := by
  induction n with
  | zero => rfl
  | succ n ih => simp [bitsN, ih]
theorem beq1_toNat (x : Nat) (h : x < 2) : (x == 1).toNat = x := by
  have : x = 0 ∨ x = 1 := by omega
  rcases this with rfl | rfl <;> rfl
theorem num_bitsN (n v : Nat) : num (bitsN n v) = v % 2 ^ n := by
  induction n with
  | zero => simp [bitsN, num, numA, Nat.mod_one]
  | succ n ih =>
    rw [bitsN, num_cons, bitsN_len, ih, beq1_toNat _ (Nat.mod_lt _ (by omega)), Nat.pow_succ, Nat.mod_mul, Nat.mul_comm (2 ^ n)]
    omega
theorem bitsN_mod (n v m : Nat) (h : n ≤ m) : bitsN n (v % 2 ^ m) = bitsN n v := by
  induction n with
  | zero => rfl
  | succ n ih =>
    simp only [bitsN]
    rw [ih (by omega)]
    congr 1
    obtain ⟨d, rfl⟩ : ∃ d, m = n + (1 + d) := ⟨m - n - 1, by omega⟩
    rw [Nat.pow_add, Nat.mod_mul_right_div_self, Nat.pow_add, Nat.pow_one, Nat.mod_mul_right_mod]
theorem bitsN_num (l : List Bool) : bitsN l.length (num l) = l := by
  induction l with
  | nil => rfl
  | cons b r ih =>
    have hb : b.toNat ≤ 1 := by cases b <;> simp
    have hp : 0 < 2 ^ r.length := Nat.two_pow_pos _
    have hlt := num_lt r
    simp only [List.length_cons, bitsN]
    rw [num_cons]
    congr 1
    · rw [Nat.mul_comm, Nat.mul_add_div hp, Nat.div_eq_of_lt hlt]
      cases b <;> rfl
    · have : bitsN r.length (b.toNat * 2 ^ r.length + num r) = bitsN r.length ((b.toNat * 2 ^ r.length + num r) % 2 ^ r.length) := (bitsN_mod _ _ _ (Nat.le_refl _)).symm
      rw [this, Nat.mul_comm, Nat.mul_add_mod, Nat.mod_eq_of_lt hlt, ih]
theorem bitsN_add (a b v : Nat) : bitsN (a + b) v = bitsN a (v / 2 ^ b) ++ bitsN b v := by
  induction a with
  | zero => simp [bitsN]
  | succ a ih =>
    rw [show a + 1 + b = (a + b) + 1 by omega]
    simp only [bitsN, List.cons_append]
    rw [ih, Nat.div_div_eq_div_mul, ← Nat.pow_add, Nat.add_comm b a]
theorem num_inj {a b : List Bool} (hl : a.length = b.length) (h : num a = num b) : a = b := by
  rw [← bitsN_num a, ← bitsN_num b, hl, h]

def bits8 (x : UInt8) : List Bool := bitsN 8 x.toNat
theorem bits8_len (x : UInt8) : (bits8 x).length = 8 := bitsN_len _ _
def bitsB (b : List UInt8) : List Bool := b.flatMap bits8
theorem bitsB_nil : bitsB [] = [] := rfl
theorem bitsB_cons (x : UInt8) (r : List UInt8) : bitsB (x :: r) = bits8 x ++ bitsB r := by simp [bitsB]
theorem bitsB_append (a b : List UInt8) : bitsB (a ++ b) = bitsB a ++ bitsB b := by simp [bitsB]
theorem bitsB_len (b : List UInt8) : (bitsB b).length = 8 * b.length := by
  induction b with
  | nil => rfl
  | cons x r ih => rw [bitsB_cons, List.length_append, bits8_len, ih, List.length_cons]; omega

/-- Groups of six bits, the last filled with zeros. -/
def chunks6 (l : List Bool) : List Nat :=
  if h : l = [] then [] else num (l.take 6 ++ List.replicate (6 - l.length) false) :: chunks6 (l.drop 6)
termination_by l.length
decreasing_by
  have : 0 < l.length := List.length_pos_iff.2 h
  simp only [List.length_drop]; omega
theorem chunks6_nil : chunks6 [] = [] := by unfold chunks6; simp
theorem chunks6_six (p r : List Bool) (hp : p.length = 6) : chunks6 (p ++ r) = num p :: chunks6 r := by
  have hne : p ++ r ≠ [] := by intro h; have := congrArg List.length h; simp [hp] at this
  rw [chunks6, dif_neg hne]
  have h1 : (p ++ r).take 6 = p := by rw [List.take_append_of_le_length (by omega), List.take_of_length_le (by omega)]
  have h2 : (p ++ r).drop 6 = r := by rw [← hp, List.drop_left]
  have h3 : 6 - (p ++ r).length = 0 := by simp [hp]
  rw [h1, h2, h3]; simp
theorem chunks6_short (p : List Bool) (h0 : 0 < p.length) (h6 : p.length < 6) : chunks6 p = [num p * 2 ^ (6 - p.length)] := by
  have hne : p ≠ [] := List.length_pos_iff.1 h0
  rw [chunks6, dif_neg hne, List.take_of_length_le (by omega), List.drop_eq_nil_of_le (by omega), chunks6_nil, num_append]
  have : ∀ n, num (List.replicate n false) = 0 := by
    intro n
    induction n with
    | zero => rfl
    | succ n ih => rw [List.replicate_succ, num_cons, ih]; simp
  rw [this, List.length_replicate]; simp
theorem chunks6_len (l : List Bool) : (chunks6 l).length ≤ l.length := by
  induction h : l.length using Nat.strongRecOn generalizing l with
  | _ n ih =>
    rw [chunks6]
    split
    · simp
    · rename_i hne
      have h0 : 0 < l.length := List.length_pos_iff.2 hne
      have hd : (l.drop 6).length = l.length - 6 := List.length_drop
      have := ih (l.drop 6).length (by omega) (l.drop 6) rfl
      simp only [List.length_cons]; omega
theorem bitsN_get (v : Nat) : ∀ (n i : Nat), i < n → (bitsN n v)[i]? = some (v / 2 ^ (n - 1 - i) % 2 == 1)
  | 0, i, h => by omega
  | n + 1, 0, h => by simp [bitsN]
  | n + 1, i + 1, h => by
    rw [bitsN, List.getElem?_cons_succ, bitsN_get v n i (by omega), show n + 1 - 1 - (i + 1) = n - 1 - i by omega]
theorem bitsB_get (b : List UInt8) : ∀ (i : Nat) (x : UInt8), b[i / 8]? = some x → (bitsB b)[i]? = some (x.toNat / 2 ^ (7 - i % 8) % 2 == 1) := by
  induction b with
  | nil => intro i x h; simp at h
  | cons y r ih =>
    intro i x h
    rw [bitsB_cons]
    by_cases hi : i < 8
    · rw [show i / 8 = 0 by omega, List.getElem?_cons_zero] at h
      cases h
      rw [List.getElem?_append_left (by rw [bits8_len]; exact hi), bits8, bitsN_get _ 8 i hi, show i % 8 = i by omega]
    · rw [List.getElem?_append_right (by rw [bits8_len]; omega), bits8_len]
      obtain ⟨j, rfl⟩ : ∃ j, i = j + 8 := ⟨i - 8, by omega⟩
      rw [show (j + 8) / 8 = j / 8 + 1 by omega, List.getElem?_cons_succ] at h
      rw [show j + 8 - 8 = j by omega, ih j x h, show (j + 8) % 8 = j % 8 by omega]
theorem num_snoc (a : List Bool) (b : Bool) : num (a ++ [b]) = 2 * num a + b.toNat := by
  rw [num_append, num_cons, num_nil]; simp; omega
end Go.Ab
