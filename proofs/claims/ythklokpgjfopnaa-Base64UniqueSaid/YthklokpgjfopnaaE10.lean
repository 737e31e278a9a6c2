/- base64: what is written is read back, and only that (plain laws). -/
import Derived.Test.YthklokpgjfopnaaE9
namespace Go.Proofs.Ythklokpgjfopnaa
open Go.Ab

theorem bits6_chunks6 (l : List Bool) : bits6 (chunks6 l) = l ++ List.replicate ((6 - l.length % 6) % 6) false := by
  induction h : l.length using Nat.strongRecOn generalizing l with
  | _ n ih =>
    rw [chunks6]
    split
    · rename_i h0; subst h0; simp at h; subst h; rfl
    · rename_i hne
      have h0 : 0 < l.length := List.length_pos_iff.2 hne
      have hd : (l.drop 6).length = l.length - 6 := List.length_drop
      have hx : (l.take 6 ++ List.replicate (6 - l.length) false).length = 6 := by simp; omega
      have hb := bitsN_num (l.take 6 ++ List.replicate (6 - l.length) false)
      rw [hx] at hb
      rw [bits6_cons, hb, ih (l.drop 6).length (by omega) (l.drop 6) rfl, hd]
      by_cases h6 : 6 ≤ l.length
      · rw [show 6 - l.length = 0 by omega, List.replicate_zero, List.append_nil, ← List.append_assoc, List.take_append_drop, show (l.length - 6) % 6 = n % 6 by omega]
      · rw [List.drop_eq_nil_of_le (by omega), List.take_of_length_le (by omega), show (6 - (l.length - 6) % 6) % 6 = 0 by omega, show (6 - n % 6) % 6 = 6 - l.length by omega]
        simp
theorem chunks6_lt (l : List Bool) : ∀ v ∈ chunks6 l, v < 64 := by
  induction h : l.length using Nat.strongRecOn generalizing l with
  | _ n ih =>
    rw [chunks6]
    split
    · intro v hv; cases hv
    · rename_i hne
      have h0 : 0 < l.length := List.length_pos_iff.2 hne
      have hd : (l.drop 6).length = l.length - 6 := List.length_drop
      intro v hv
      rcases List.mem_cons.1 hv with rfl | hv
      · have hx : (l.take 6 ++ List.replicate (6 - l.length) false).length = 6 := by simp; omega
        have := num_lt (l.take 6 ++ List.replicate (6 - l.length) false)
        rw [hx] at this; exact this
      · exact ih (l.drop 6).length (by omega) (l.drop 6) rfl v hv
theorem bits6_inj : ∀ (a b : List Nat), (∀ v ∈ a, v < 64) → (∀ v ∈ b, v < 64) → bits6 a = bits6 b → a = b
  | [], [], _, _, _ => rfl
  | [], v :: r, _, _, h => by have := congrArg List.length h; rw [bits6_len, bits6_len] at this; simp at this
  | v :: r, [], _, _, h => by have := congrArg List.length h; rw [bits6_len, bits6_len] at this; simp at this
  | v :: r, w :: q, h1, h2, h => by
    rw [bits6_cons, bits6_cons] at h
    obtain ⟨e1, e2⟩ := List.append_inj h (by rw [bitsN_len, bitsN_len])
    have e3 := congrArg num e1
    rw [num_bitsN, num_bitsN, Nat.mod_eq_of_lt (h1 v (by simp)), Nat.mod_eq_of_lt (h2 w (by simp))] at e3
    rw [e3, bits6_inj r q (fun x hx => h1 x (by simp [hx])) (fun x hx => h2 x (by simp [hx])) e2]
theorem vals_map : ∀ (L : List Nat), (∀ v ∈ L, v < 64) → vals (L.map alph) = some L
  | [], _ => rfl
  | v :: r, h => by
    obtain ⟨h1, h2⟩ := (alph_val (alph v) v (h v (by simp))).1 rfl
    simp only [List.map_cons, vals]
    rw [if_pos h1, vals_map r (fun x hx => h x (by simp [hx])), h2, Option.map_some]
theorem vals_eq : ∀ (s : List UInt8) (L : List Nat), vals s = some L → L.map alph = s
  | [], L, h => by simp only [vals, Option.some.injEq] at h; subst h; rfl
  | c :: r, L, h => by
    simp only [vals] at h
    split at h
    · rename_i hc
      cases hr : vals r with
      | none => rw [hr] at h; simp at h
      | some z =>
        rw [hr] at h
        simp only [Option.map_some, Option.some.injEq] at h
        subst h
        rw [List.map_cons, vals_eq r z hr, (alph_val c _ (valS_lt _)).2 ⟨hc, rfl⟩]
    · cases h
theorem grp8_bitsB (b : List UInt8) (z : List Bool) (hz : z.length < 8) : grp8 (bitsB b ++ z) = b ∧ left8 (bitsB b ++ z) = z := by
  induction b with
  | nil => rw [bitsB_nil, List.nil_append]; exact ⟨grp8_small hz, left8_small hz⟩
  | cons x r ih =>
    have hl := bits8_len x
    have h8 : 8 ≤ (bitsB (x :: r) ++ z).length := by rw [bitsB_cons, List.length_append, List.length_append]; omega
    have h1 : (bitsB (x :: r) ++ z).take 8 = bits8 x := by rw [bitsB_cons, List.append_assoc, ← hl, List.take_left]
    have h2 : (bitsB (x :: r) ++ z).drop 8 = bitsB r ++ z := by rw [bitsB_cons, List.append_assoc, ← hl, List.drop_left]
    rw [grp8_big h8, left8_big h8, h1, h2, ih.1, ih.2, num_bits8, UInt8.ofNat_toNat]
    exact ⟨rfl, rfl⟩
theorem bitsB_grp8 (B : List Bool) : bitsB (grp8 B) ++ left8 B = B := by
  induction h : B.length using Nat.strongRecOn generalizing B with
  | _ n ih =>
    by_cases h8 : 8 ≤ B.length
    · have hd : (B.drop 8).length = B.length - 8 := List.length_drop
      rw [grp8_big h8, left8_big h8, bitsB_cons, List.append_assoc, ih (B.drop 8).length (by omega) (B.drop 8) rfl]
      have hl : (B.take 8).length = 8 := by rw [List.length_take]; omega
      have hlt := num_lt (B.take 8)
      rw [hl] at hlt
      have hb := bitsN_num (B.take 8)
      rw [hl] at hb
      rw [bits8, UInt8.toNat_ofNat', Nat.mod_eq_of_lt hlt, hb, List.take_append_drop]
    · rw [grp8_small (by omega), left8_small (by omega)]; rfl
theorem num_rep (n : Nat) : num (List.replicate n false) = 0 := num_zero _ fun j h => by
  rw [List.getElem?_replicate] at h
  split at h <;> simp at h

theorem back_plain (b : List UInt8) (h : b.length ≤ 4096) : decS (textS b) = (b, 0) := by
  have hl := textS_len_eq b
  have hb := bitsB_len b
  rw [decS, if_neg (by omega), textS, vals_map _ (chunks6_lt _)]
  simp only
  rw [if_neg (by rw [List.length_map, chunks6_len_eq, hb]; omega), bits6_chunks6]
  obtain ⟨h1, h2⟩ := grp8_bitsB b (List.replicate ((6 - (bitsB b).length % 6) % 6) false) (by rw [List.length_replicate]; omega)
  rw [h1, h2, num_rep, if_neg (by simp)]
theorem unique_plain (s d : List UInt8) (h : decS s = (d, 0)) : d.length ≤ 4096 ∧ textS d = s := by
  have hlen := decS_len s
  unfold decS at h
  split at h
  · simp at h
  · rename_i hs
    split at h
    · simp at h
    · rename_i vs hvs
      have hvl := vals_len _ _ hvs
      split at h
      · simp at h
      · rename_i hm
        split at h
        · simp at h
        · rename_i hz
          simp only [Prod.mk.injEq, and_true] at h
          have hB := bits6_len vs
          have hg := grp8_len (bits6 vs)
          have hL := left8_len (bits6 vs)
          have hr : left8 (bits6 vs) = List.replicate ((left8 (bits6 vs)).length) false := num_inj (by rw [List.length_replicate]) (by rw [num_rep]; simpa using hz)
          have hj := bitsB_grp8 (bits6 vs)
          rw [h] at hj hg
          have hk := bits6_chunks6 (bitsB d)
          have hbl := bitsB_len d
          have hrr : (6 - (bitsB d).length % 6) % 6 = (left8 (bits6 vs)).length := by
            rw [hbl, hg, hL.2, hB]
            have h4 : vs.length % 4 = 0 ∨ vs.length % 4 = 2 ∨ vs.length % 4 = 3 := by omega
            obtain ⟨q, hq⟩ : ∃ q, vs.length = 4 * q + vs.length % 4 := ⟨vs.length / 4, by omega⟩
            rcases h4 with h4 | h4 | h4 <;> rw [h4] at hq <;> rw [hq] <;> omega
          rw [hrr, ← hr, hj] at hk
          have := bits6_inj _ _ (chunks6_lt _) (vals_lt _ _ hvs) hk
          refine ⟨by omega, ?_⟩
          rw [textS, this]; exact vals_eq _ _ hvs
theorem bad_plain (s : List UInt8) (r : List UInt8 × Nat) (hr : decS s = r) (h : r.2 ≠ 0) : r.1 = [] := by
  unfold decS at hr
  split at hr
  · subst hr; rfl
  · split at hr
    · subst hr; rfl
    · split at hr
      · subst hr; rfl
      · split at hr
        · subst hr; rfl
        · subst hr; simp at h

end Go.Proofs.Ythklokpgjfopnaa
