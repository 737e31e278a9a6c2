/- Texts N2, N3, K6, K7, K8, K9, K12, K13, K14, K15, joined. -/
import Derived.Test.YtaelnglalpiemaaDoorM4

/- Shared: the number at the beginning of bytes: varint.Read, the specified reading, plain laws. -/
namespace Go.Proofs.YtaelnglalpiemaaDoor
open Go.Ab
attribute [local irreducible] Go.Ab.tyAV Go.Ab.aw Go.Ab.aops Go.Ab.kReg Go.Ab.aThen Go.Ab.aBlk Go.Ab.acond Go.Ab.aguard Go.Ab.astep Go.Ab.AStepX Go.Ab.aRet

def leadF : Nat → List UInt8 → Nat
  | 0, _ => 0
  | _ + 1, [] => 0
  | f + 1, x :: r => if 128 ≤ x.toNat then leadF f r + 1 else 0
def lead (b : List UInt8) : Nat := leadF 7 b
/-- The value of the first groups. -/
def vl (b : List UInt8) : Nat → Nat
  | 0 => 0
  | j + 1 => vl b j + (b.getD j 0).toNat % 128 * 128 ^ j
def rdS (b : List UInt8) : Nat × Nat × Nat :=
  if lead b = 7 then (0, 0, 5) else if lead b = b.length then (0, 0, 3) else if 0 < lead b ∧ (b.getD (lead b) 0).toNat = 0 then (0, 0, 5) else
    if 281474976710656 < vl b (lead b + 1) then (0, 0, 1) else (vl b (lead b + 1), lead b + 1, 0)
def rdAV (r : Nat × Nat × Nat) : AV := .tup [.lit (.int .i64 r.1), .lit (.int .i64 r.2.1), .lit (.int .i64 r.2.2)]

theorem leadF_le : ∀ (f : Nat) (b : List UInt8), leadF f b ≤ f ∧ leadF f b ≤ b.length
  | 0, b => by simp [leadF]
  | f + 1, [] => by simp [leadF]
  | f + 1, x :: r => by
    have := leadF_le f r
    simp only [leadF]
    split <;> simp <;> omega
theorem leadF_lt : ∀ (f : Nat) (b : List UInt8) (i : Nat), i < leadF f b → ∃ x, b[i]? = some x ∧ 128 ≤ x.toNat
  | 0, b, i, h => by simp [leadF] at h
  | f + 1, [], i, h => by simp [leadF] at h
  | f + 1, x :: r, i, h => by
    simp only [leadF] at h
    split at h
    · cases i with
      | zero => exact ⟨x, rfl, by assumption⟩
      | succ i => exact leadF_lt f r i (by omega)
    · omega
theorem leadF_at : ∀ (f : Nat) (b : List UInt8), leadF f b < f → leadF f b < b.length → ∃ x, b[leadF f b]? = some x ∧ x.toNat < 128
  | 0, b, h, _ => by omega
  | f + 1, [], _, h => by simp at h
  | f + 1, x :: r, h, h' => by
    simp only [leadF] at h h' ⊢
    split at h
    · rename_i hx
      rw [if_pos hx] at h' ⊢
      obtain ⟨y, h1, h2⟩ := leadF_at f r (by omega) (by simpa using h')
      exact ⟨y, by simpa using h1, h2⟩
    · rename_i hx
      rw [if_neg hx]
      exact ⟨x, rfl, by omega⟩
theorem vl_lt (b : List UInt8) : ∀ j, vl b j < 128 ^ j
  | 0 => by simp [vl]
  | j + 1 => by
    have h := vl_lt b j
    have h2 : (b.getD j 0).toNat % 128 ≤ 127 := by omega
    have h3 := Nat.mul_le_mul_right (128 ^ j) h2
    simp only [vl, Nat.pow_succ]
    omega
theorem or_join (i : Nat) (a y : Nat) (ha : a < 2 ^ i) (hy : y % 2 ^ i = 0) (h1 : a < 9223372036854775808) (h2 : y < 9223372036854775808) : bits .or .i64 (a : Int) (y : Int) = ((a + y : Nat) : Int) := by
  have h := bits_join .i64 63 (by decide) (fun n a b => wrap_i64 (by omega) (by omega)) i (y : Int) (a : Int) (by omega) (by exact_mod_cast hy) (by omega) (by omega) (by exact_mod_cast ha) (by omega)
  have c : bits .or .i64 (a : Int) (y : Int) = bits .or .i64 (y : Int) (a : Int) := by simp [bits, BitVec.or_comm]
  rw [c, h]; omega

theorem rd_pow (x : UInt8) (u : Nat) (hu : u < 7) : x.toNat % 128 * 128 ^ u < 4611686018427387904 ∧ ((x.toNat % 128 * 128 ^ u : Nat) : Int) = (x.toNat : Int) % 128 * 2 ^ (7 * u) := by
  have hp : (128 : Nat) ^ u = 2 ^ (7 * u) := by rw [Nat.pow_mul]
  have hpl : 128 ^ u ≤ 128 ^ 6 := Nat.pow_le_pow_right (by omega) (by omega)
  have hsm : x.toNat % 128 * 128 ^ u ≤ 127 * 128 ^ 6 := Nat.mul_le_mul (by omega) hpl
  refine ⟨by omega, ?_⟩
  rw [hp, Int.natCast_mul, Int.natCast_pow, Int.natCast_emod]
  rfl
theorem rd_sh (x : UInt8) (u : Nat) (hu : u < 7) : IntKind.i64.wrap ((x.toNat : Int) % 128 * 2 ^ (7 * u)) = (x.toNat : Int) % 128 * 2 ^ (7 * u) := by
  obtain ⟨h1, h2⟩ := rd_pow x u hu
  rw [← h2, wrap_i64 (by omega) (by omega)]
theorem rd_or (b : List UInt8) (x : UInt8) (u : Nat) (hu : u < 7) (hx : b.getD u 0 = x) : bits .or .i64 (vl b u : Int) ((x.toNat : Int) % 128 * 2 ^ (7 * u)) = ((vl b (u + 1) : Nat) : Int) ∧ vl b (u + 1) < 9223372036854775808 := by
  obtain ⟨h1, h2⟩ := rd_pow x u hu
  have hv := vl_lt b u
  have hpl : 128 ^ u ≤ 128 ^ 6 := Nat.pow_le_pow_right (by omega) (by omega)
  have hvs : vl b (u + 1) = vl b u + x.toNat % 128 * 128 ^ u := by simp only [vl, hx]
  have hp : (128 : Nat) ^ u = 2 ^ (7 * u) := by rw [Nat.pow_mul]
  refine ⟨?_, by omega⟩
  rw [← h2, hvs]
  exact or_join (7 * u) _ _ (by rw [← hp]; exact hv) (by rw [hp]; exact Nat.mul_mod_left _ _) (by omega) (by omega)

set_option maxRecDepth 100000 in
theorem Read_spec (b : List UInt8) (hb : b.length ≤ 100000000) (k : Nat) : ACall Tryd.prog 98 [.slice none (b.map byteAV)] k [] (rdAV (rdS b)) [] := by
  refine ACall.of_body mixed Tryd.func98 rfl (by kernel_rfl) Tryd.ntmps98 (by kernel_rfl) rfl (by simp) (by simp) (by simp) fun σ N hp hpn hk hkn hfree => ?_
  repeat (first | apply go_nil | apply go_kreg | apply go_kreg0 | apply go_kreg1 | (apply go_kregT; · (first | (simp [addT, CF, CFy, Ind, DisjF]; done) | (simp only [addT, CF, CFy, Ind]; repeat' (first | exact trivial | apply And.intro | exact Or.inl (by decide +kernel) | (refine Or.inr ⟨?_, ?_⟩ <;> (simp; try omega)))))) | apply go_then | apply go_then_exit | apply go_then_ret | apply go_blk | apply go_blk_ret | apply go_blk_here | (apply go_blk_there; · rfl) | apply go_seq | (apply go_region; · (simp only [List.length_cons, List.length_nil, Nat.reduceAdd, Nat.add_assoc]; rfl)) | apply go_skip | apply go_block | apply go_scope | apply go_label | apply go_exit | apply go_ret | (apply go_mut; (· assumption); · (simp (disch := omega) [go_sem, *, -List.reduceReplicate]; first | exact ⟨rfl, rfl⟩ | (simp [go_sem, *]; exact ⟨rfl, rfl⟩))) | (apply go_mutP; (· assumption); · (simp (disch := omega) [go_sem, *, -List.reduceReplicate]; try first | rfl | exact ⟨rfl, rfl⟩ | exact ⟨rfl, rfl, rfl⟩)) | (apply go_guard_in; (· rfl); · (simp (disch := omega) [go_sem, *, -List.reduceReplicate]; try first | rfl | omega)) | (apply go_guard_off; (· rfl); · (simp (disch := omega) [go_sem, *, -List.reduceReplicate]; try first | rfl | omega)) | (apply go_guard_no; (· rfl); · (simp (disch := omega) [go_sem, *, -List.reduceReplicate]; try rfl)) | ((first | apply go_move | apply go_assign | apply go_load | apply go_store | apply go_append | apply go_copy | apply go_copy0 | apply go_clear0 | apply go_slice3 | apply go_indexA); · (simp (disch := omega) [go_sem, *, -List.reduceReplicate]; try first | rfl | exact ⟨rfl, rfl⟩ | exact ⟨rfl, rfl, rfl⟩)) | ((first | apply go_loadv | apply go_append0 | apply go_beyond); · (simp (disch := omega) [go_sem, *, -List.reduceReplicate]; try first | rfl | exact ⟨rfl, rfl⟩ | exact ⟨rfl, rfl, rfl⟩)) | (apply go_appself; · (simp (disch := omega) [go_sem, *, -List.reduceReplicate]; try first | rfl | exact ⟨rfl, rfl⟩ | exact ⟨rfl, rfl, rfl⟩)) | ((first | (apply go_appendz; · rfl) | (apply go_new; · rfl) | (apply go_glob; · assumption) | (apply go_pure; · rfl)); · (simp (disch := omega) [go_sem, *, -List.reduceReplicate]; try first | rfl | exact ⟨rfl, rfl⟩ | exact ⟨rfl, rfl, rfl⟩)) | (apply go_read1; (· rfl); · (simp (disch := omega) [go_sem, *, -List.reduceReplicate]; try first | rfl | exact ⟨rfl, rfl⟩ | exact ⟨rfl, rfl, rfl⟩)) | (apply go_rw1; (· rfl); · (simp (disch := omega) [go_sem, *, -List.reduceReplicate]; try first | rfl | exact ⟨rfl, rfl⟩ | exact ⟨rfl, rfl, rfl⟩)) | (apply go_new1; (· rfl); · (simp (disch := omega) [go_sem, *, -List.reduceReplicate]; try first | rfl | exact ⟨rfl, rfl⟩ | exact ⟨rfl, rfl, rfl⟩)) | (apply go_conv; · (simp (disch := omega) [go_sem, *, -List.reduceReplicate]; try first | rfl | exact ⟨rfl, rfl⟩ | exact ⟨rfl, rfl, rfl⟩)) | ((first | (apply go_new; · rfl) | (apply go_pure; · rfl)); · (simp (disch := omega) [go_sem, *, -List.reduceReplicate]; simp [go_sem, *]; try first | rfl | exact ⟨rfl, rfl⟩)))
  refine go_loop (aloop mixed (by kernel_rfl) (fun c => ∃ (u : Nat), c.s 0 = .slice none (b.map byteAV) ∧ c.s 5 = .lit (.int .i64 (vl b u)) ∧ c.s 6 = .lit (.int .i64 u) ∧ (∀ id, id < N → c.σ id = σ id) ∧ N ≤ c.n ∧ u ≤ lead b)
    (fun c => match c.s 6 with | .lit (.int _ m) => 7 - m.toNat | _ => 0) ⟨0, by simp (disch := omega) [go_sem, *, -List.reduceReplicate], by simp (disch := omega) [go_sem, *, -List.reduceReplicate]; rfl, by simp (disch := omega) [go_sem, *, -List.reduceReplicate], (fun id hid => by simp (disch := omega) only [upd_ne, wr_cons, wr_nil]; try exact hlow id hid), by simp only; omega, by omega⟩ ?_)
  rintro ⟨s, σ', n'⟩ ⟨u, h0, h5, h6, hlow, hn', hu⟩
  simp only at h0 h5 h6 hlow hn'
  have hle := leadF_le 7 b
  by_cases h7 : u = 7
  · subst h7
    have hr : rdS b = (0, 0, 5) := by simp [rdS, show lead b = 7 from by unfold lead at hu ⊢; omega]
    rw [hr]
    repeat (first | apply go_nil | apply go_kreg | apply go_kreg0 | apply go_kreg1 | (apply go_kregT; · (first | (simp [addT, CF, CFy, Ind, DisjF]; done) | (simp only [addT, CF, CFy, Ind]; repeat' (first | exact trivial | apply And.intro | exact Or.inl (by decide +kernel) | (refine Or.inr ⟨?_, ?_⟩ <;> (simp; try omega)))))) | apply go_then | apply go_then_exit | apply go_then_ret | apply go_blk | apply go_blk_ret | apply go_blk_here | (apply go_blk_there; · rfl) | apply go_seq | (apply go_region; · (simp only [List.length_cons, List.length_nil, Nat.reduceAdd, Nat.add_assoc]; rfl)) | apply go_skip | apply go_block | apply go_scope | apply go_label | apply go_exit | apply go_ret | (apply go_mut; (· assumption); · (simp (disch := omega) [go_sem, *, -List.reduceReplicate]; first | exact ⟨rfl, rfl⟩ | (simp [go_sem, *]; exact ⟨rfl, rfl⟩))) | (apply go_mutP; (· assumption); · (simp (disch := omega) [go_sem, *, -List.reduceReplicate]; try first | rfl | exact ⟨rfl, rfl⟩ | exact ⟨rfl, rfl, rfl⟩)) | (apply go_guard_in; (· rfl); · (simp (disch := omega) [go_sem, *, -List.reduceReplicate]; try first | rfl | omega)) | (apply go_guard_off; (· rfl); · (simp (disch := omega) [go_sem, *, -List.reduceReplicate]; try first | rfl | omega)) | (apply go_guard_no; (· rfl); · (simp (disch := omega) [go_sem, *, -List.reduceReplicate]; try rfl)) | ((first | apply go_move | apply go_assign | apply go_load | apply go_store | apply go_append | apply go_copy | apply go_copy0 | apply go_clear0 | apply go_slice3 | apply go_indexA); · (simp (disch := omega) [go_sem, *, -List.reduceReplicate]; try first | rfl | exact ⟨rfl, rfl⟩ | exact ⟨rfl, rfl, rfl⟩)) | ((first | apply go_loadv | apply go_append0 | apply go_beyond); · (simp (disch := omega) [go_sem, *, -List.reduceReplicate]; try first | rfl | exact ⟨rfl, rfl⟩ | exact ⟨rfl, rfl, rfl⟩)) | (apply go_appself; · (simp (disch := omega) [go_sem, *, -List.reduceReplicate]; try first | rfl | exact ⟨rfl, rfl⟩ | exact ⟨rfl, rfl, rfl⟩)) | ((first | (apply go_appendz; · rfl) | (apply go_new; · rfl) | (apply go_glob; · assumption) | (apply go_pure; · rfl)); · (simp (disch := omega) [go_sem, *, -List.reduceReplicate]; try first | rfl | exact ⟨rfl, rfl⟩ | exact ⟨rfl, rfl, rfl⟩)) | (apply go_read1; (· rfl); · (simp (disch := omega) [go_sem, *, -List.reduceReplicate]; try first | rfl | exact ⟨rfl, rfl⟩ | exact ⟨rfl, rfl, rfl⟩)) | (apply go_rw1; (· rfl); · (simp (disch := omega) [go_sem, *, -List.reduceReplicate]; try first | rfl | exact ⟨rfl, rfl⟩ | exact ⟨rfl, rfl, rfl⟩)) | (apply go_new1; (· rfl); · (simp (disch := omega) [go_sem, *, -List.reduceReplicate]; try first | rfl | exact ⟨rfl, rfl⟩ | exact ⟨rfl, rfl, rfl⟩)) | (apply go_conv; · (simp (disch := omega) [go_sem, *, -List.reduceReplicate]; try first | rfl | exact ⟨rfl, rfl⟩ | exact ⟨rfl, rfl, rfl⟩)) | ((first | (apply go_new; · rfl) | (apply go_pure; · rfl)); · (simp (disch := omega) [go_sem, *, -List.reduceReplicate]; simp [go_sem, *]; try first | rfl | exact ⟨rfl, rfl⟩)))
    refine go_condT (by simp (disch := omega) [go_sem, *, -List.reduceReplicate]; try first | rfl | omega) ?_
    repeat (first | apply go_nil | apply go_kreg | apply go_kreg0 | apply go_kreg1 | (apply go_kregT; · (first | (simp [addT, CF, CFy, Ind, DisjF]; done) | (simp only [addT, CF, CFy, Ind]; repeat' (first | exact trivial | apply And.intro | exact Or.inl (by decide +kernel) | (refine Or.inr ⟨?_, ?_⟩ <;> (simp; try omega)))))) | apply go_then | apply go_then_exit | apply go_then_ret | apply go_blk | apply go_blk_ret | apply go_blk_here | (apply go_blk_there; · rfl) | apply go_seq | (apply go_region; · (simp only [List.length_cons, List.length_nil, Nat.reduceAdd, Nat.add_assoc]; rfl)) | apply go_skip | apply go_block | apply go_scope | apply go_label | apply go_exit | apply go_ret | (apply go_mut; (· assumption); · (simp (disch := omega) [go_sem, *, -List.reduceReplicate]; first | exact ⟨rfl, rfl⟩ | (simp [go_sem, *]; exact ⟨rfl, rfl⟩))) | (apply go_mutP; (· assumption); · (simp (disch := omega) [go_sem, *, -List.reduceReplicate]; try first | rfl | exact ⟨rfl, rfl⟩ | exact ⟨rfl, rfl, rfl⟩)) | (apply go_guard_in; (· rfl); · (simp (disch := omega) [go_sem, *, -List.reduceReplicate]; try first | rfl | omega)) | (apply go_guard_off; (· rfl); · (simp (disch := omega) [go_sem, *, -List.reduceReplicate]; try first | rfl | omega)) | (apply go_guard_no; (· rfl); · (simp (disch := omega) [go_sem, *, -List.reduceReplicate]; try rfl)) | ((first | apply go_move | apply go_assign | apply go_load | apply go_store | apply go_append | apply go_copy | apply go_copy0 | apply go_clear0 | apply go_slice3 | apply go_indexA); · (simp (disch := omega) [go_sem, *, -List.reduceReplicate]; try first | rfl | exact ⟨rfl, rfl⟩ | exact ⟨rfl, rfl, rfl⟩)) | ((first | apply go_loadv | apply go_append0 | apply go_beyond); · (simp (disch := omega) [go_sem, *, -List.reduceReplicate]; try first | rfl | exact ⟨rfl, rfl⟩ | exact ⟨rfl, rfl, rfl⟩)) | (apply go_appself; · (simp (disch := omega) [go_sem, *, -List.reduceReplicate]; try first | rfl | exact ⟨rfl, rfl⟩ | exact ⟨rfl, rfl, rfl⟩)) | ((first | (apply go_appendz; · rfl) | (apply go_new; · rfl) | (apply go_glob; · assumption) | (apply go_pure; · rfl)); · (simp (disch := omega) [go_sem, *, -List.reduceReplicate]; try first | rfl | exact ⟨rfl, rfl⟩ | exact ⟨rfl, rfl, rfl⟩)) | (apply go_read1; (· rfl); · (simp (disch := omega) [go_sem, *, -List.reduceReplicate]; try first | rfl | exact ⟨rfl, rfl⟩ | exact ⟨rfl, rfl, rfl⟩)) | (apply go_rw1; (· rfl); · (simp (disch := omega) [go_sem, *, -List.reduceReplicate]; try first | rfl | exact ⟨rfl, rfl⟩ | exact ⟨rfl, rfl, rfl⟩)) | (apply go_new1; (· rfl); · (simp (disch := omega) [go_sem, *, -List.reduceReplicate]; try first | rfl | exact ⟨rfl, rfl⟩ | exact ⟨rfl, rfl, rfl⟩)) | (apply go_conv; · (simp (disch := omega) [go_sem, *, -List.reduceReplicate]; try first | rfl | exact ⟨rfl, rfl⟩ | exact ⟨rfl, rfl, rfl⟩)) | ((first | (apply go_new; · rfl) | (apply go_pure; · rfl)); · (simp (disch := omega) [go_sem, *, -List.reduceReplicate]; simp [go_sem, *]; try first | rfl | exact ⟨rfl, rfl⟩)))
    refine go_result (by simp (disch := omega) [go_sem, *, -List.reduceReplicate]; rfl) (by simp (disch := omega) [go_sem]; try rfl) (fun id hid => by simp (disch := omega) only [upd_ne, wr_cons, wr_nil]; try exact hlow id hid)
  · by_cases hlen : u = b.length
    · have hr : rdS b = (0, 0, 3) := by
        have : lead b = b.length := by unfold lead at hu ⊢; omega
        simp [rdS, this, ← hlen, h7]
      rw [hr]
      repeat (first | apply go_nil | apply go_kreg | apply go_kreg0 | apply go_kreg1 | (apply go_kregT; · (first | (simp [addT, CF, CFy, Ind, DisjF]; done) | (simp only [addT, CF, CFy, Ind]; repeat' (first | exact trivial | apply And.intro | exact Or.inl (by decide +kernel) | (refine Or.inr ⟨?_, ?_⟩ <;> (simp; try omega)))))) | apply go_then | apply go_then_exit | apply go_then_ret | apply go_blk | apply go_blk_ret | apply go_blk_here | (apply go_blk_there; · rfl) | apply go_seq | (apply go_region; · (simp only [List.length_cons, List.length_nil, Nat.reduceAdd, Nat.add_assoc]; rfl)) | apply go_skip | apply go_block | apply go_scope | apply go_label | apply go_exit | apply go_ret | (apply go_mut; (· assumption); · (simp (disch := omega) [go_sem, *, -List.reduceReplicate]; first | exact ⟨rfl, rfl⟩ | (simp [go_sem, *]; exact ⟨rfl, rfl⟩))) | (apply go_mutP; (· assumption); · (simp (disch := omega) [go_sem, *, -List.reduceReplicate]; try first | rfl | exact ⟨rfl, rfl⟩ | exact ⟨rfl, rfl, rfl⟩)) | (apply go_guard_in; (· rfl); · (simp (disch := omega) [go_sem, *, -List.reduceReplicate]; try first | rfl | omega)) | (apply go_guard_off; (· rfl); · (simp (disch := omega) [go_sem, *, -List.reduceReplicate]; try first | rfl | omega)) | (apply go_guard_no; (· rfl); · (simp (disch := omega) [go_sem, *, -List.reduceReplicate]; try rfl)) | ((first | apply go_move | apply go_assign | apply go_load | apply go_store | apply go_append | apply go_copy | apply go_copy0 | apply go_clear0 | apply go_slice3 | apply go_indexA); · (simp (disch := omega) [go_sem, *, -List.reduceReplicate]; try first | rfl | exact ⟨rfl, rfl⟩ | exact ⟨rfl, rfl, rfl⟩)) | ((first | apply go_loadv | apply go_append0 | apply go_beyond); · (simp (disch := omega) [go_sem, *, -List.reduceReplicate]; try first | rfl | exact ⟨rfl, rfl⟩ | exact ⟨rfl, rfl, rfl⟩)) | (apply go_appself; · (simp (disch := omega) [go_sem, *, -List.reduceReplicate]; try first | rfl | exact ⟨rfl, rfl⟩ | exact ⟨rfl, rfl, rfl⟩)) | ((first | (apply go_appendz; · rfl) | (apply go_new; · rfl) | (apply go_glob; · assumption) | (apply go_pure; · rfl)); · (simp (disch := omega) [go_sem, *, -List.reduceReplicate]; try first | rfl | exact ⟨rfl, rfl⟩ | exact ⟨rfl, rfl, rfl⟩)) | (apply go_read1; (· rfl); · (simp (disch := omega) [go_sem, *, -List.reduceReplicate]; try first | rfl | exact ⟨rfl, rfl⟩ | exact ⟨rfl, rfl, rfl⟩)) | (apply go_rw1; (· rfl); · (simp (disch := omega) [go_sem, *, -List.reduceReplicate]; try first | rfl | exact ⟨rfl, rfl⟩ | exact ⟨rfl, rfl, rfl⟩)) | (apply go_new1; (· rfl); · (simp (disch := omega) [go_sem, *, -List.reduceReplicate]; try first | rfl | exact ⟨rfl, rfl⟩ | exact ⟨rfl, rfl, rfl⟩)) | (apply go_conv; · (simp (disch := omega) [go_sem, *, -List.reduceReplicate]; try first | rfl | exact ⟨rfl, rfl⟩ | exact ⟨rfl, rfl, rfl⟩)) | ((first | (apply go_new; · rfl) | (apply go_pure; · rfl)); · (simp (disch := omega) [go_sem, *, -List.reduceReplicate]; simp [go_sem, *]; try first | rfl | exact ⟨rfl, rfl⟩)))
      refine go_condF (by simp (disch := omega) [go_sem, *, -List.reduceReplicate]; try first | rfl | omega) ?_
      repeat (first | apply go_nil | apply go_kreg | apply go_kreg0 | apply go_kreg1 | (apply go_kregT; · (first | (simp [addT, CF, CFy, Ind, DisjF]; done) | (simp only [addT, CF, CFy, Ind]; repeat' (first | exact trivial | apply And.intro | exact Or.inl (by decide +kernel) | (refine Or.inr ⟨?_, ?_⟩ <;> (simp; try omega)))))) | apply go_then | apply go_then_exit | apply go_then_ret | apply go_blk | apply go_blk_ret | apply go_blk_here | (apply go_blk_there; · rfl) | apply go_seq | (apply go_region; · (simp only [List.length_cons, List.length_nil, Nat.reduceAdd, Nat.add_assoc]; rfl)) | apply go_skip | apply go_block | apply go_scope | apply go_label | apply go_exit | apply go_ret | (apply go_mut; (· assumption); · (simp (disch := omega) [go_sem, *, -List.reduceReplicate]; first | exact ⟨rfl, rfl⟩ | (simp [go_sem, *]; exact ⟨rfl, rfl⟩))) | (apply go_mutP; (· assumption); · (simp (disch := omega) [go_sem, *, -List.reduceReplicate]; try first | rfl | exact ⟨rfl, rfl⟩ | exact ⟨rfl, rfl, rfl⟩)) | (apply go_guard_in; (· rfl); · (simp (disch := omega) [go_sem, *, -List.reduceReplicate]; try first | rfl | omega)) | (apply go_guard_off; (· rfl); · (simp (disch := omega) [go_sem, *, -List.reduceReplicate]; try first | rfl | omega)) | (apply go_guard_no; (· rfl); · (simp (disch := omega) [go_sem, *, -List.reduceReplicate]; try rfl)) | ((first | apply go_move | apply go_assign | apply go_load | apply go_store | apply go_append | apply go_copy | apply go_copy0 | apply go_clear0 | apply go_slice3 | apply go_indexA); · (simp (disch := omega) [go_sem, *, -List.reduceReplicate]; try first | rfl | exact ⟨rfl, rfl⟩ | exact ⟨rfl, rfl, rfl⟩)) | ((first | apply go_loadv | apply go_append0 | apply go_beyond); · (simp (disch := omega) [go_sem, *, -List.reduceReplicate]; try first | rfl | exact ⟨rfl, rfl⟩ | exact ⟨rfl, rfl, rfl⟩)) | (apply go_appself; · (simp (disch := omega) [go_sem, *, -List.reduceReplicate]; try first | rfl | exact ⟨rfl, rfl⟩ | exact ⟨rfl, rfl, rfl⟩)) | ((first | (apply go_appendz; · rfl) | (apply go_new; · rfl) | (apply go_glob; · assumption) | (apply go_pure; · rfl)); · (simp (disch := omega) [go_sem, *, -List.reduceReplicate]; try first | rfl | exact ⟨rfl, rfl⟩ | exact ⟨rfl, rfl, rfl⟩)) | (apply go_read1; (· rfl); · (simp (disch := omega) [go_sem, *, -List.reduceReplicate]; try first | rfl | exact ⟨rfl, rfl⟩ | exact ⟨rfl, rfl, rfl⟩)) | (apply go_rw1; (· rfl); · (simp (disch := omega) [go_sem, *, -List.reduceReplicate]; try first | rfl | exact ⟨rfl, rfl⟩ | exact ⟨rfl, rfl, rfl⟩)) | (apply go_new1; (· rfl); · (simp (disch := omega) [go_sem, *, -List.reduceReplicate]; try first | rfl | exact ⟨rfl, rfl⟩ | exact ⟨rfl, rfl, rfl⟩)) | (apply go_conv; · (simp (disch := omega) [go_sem, *, -List.reduceReplicate]; try first | rfl | exact ⟨rfl, rfl⟩ | exact ⟨rfl, rfl, rfl⟩)) | ((first | (apply go_new; · rfl) | (apply go_pure; · rfl)); · (simp (disch := omega) [go_sem, *, -List.reduceReplicate]; simp [go_sem, *]; try first | rfl | exact ⟨rfl, rfl⟩)))
      refine go_condT (by simp (disch := omega) [go_sem, *, -List.reduceReplicate]; try first | rfl | omega) ?_
      repeat (first | apply go_nil | apply go_kreg | apply go_kreg0 | apply go_kreg1 | (apply go_kregT; · (first | (simp [addT, CF, CFy, Ind, DisjF]; done) | (simp only [addT, CF, CFy, Ind]; repeat' (first | exact trivial | apply And.intro | exact Or.inl (by decide +kernel) | (refine Or.inr ⟨?_, ?_⟩ <;> (simp; try omega)))))) | apply go_then | apply go_then_exit | apply go_then_ret | apply go_blk | apply go_blk_ret | apply go_blk_here | (apply go_blk_there; · rfl) | apply go_seq | (apply go_region; · (simp only [List.length_cons, List.length_nil, Nat.reduceAdd, Nat.add_assoc]; rfl)) | apply go_skip | apply go_block | apply go_scope | apply go_label | apply go_exit | apply go_ret | (apply go_mut; (· assumption); · (simp (disch := omega) [go_sem, *, -List.reduceReplicate]; first | exact ⟨rfl, rfl⟩ | (simp [go_sem, *]; exact ⟨rfl, rfl⟩))) | (apply go_mutP; (· assumption); · (simp (disch := omega) [go_sem, *, -List.reduceReplicate]; try first | rfl | exact ⟨rfl, rfl⟩ | exact ⟨rfl, rfl, rfl⟩)) | (apply go_guard_in; (· rfl); · (simp (disch := omega) [go_sem, *, -List.reduceReplicate]; try first | rfl | omega)) | (apply go_guard_off; (· rfl); · (simp (disch := omega) [go_sem, *, -List.reduceReplicate]; try first | rfl | omega)) | (apply go_guard_no; (· rfl); · (simp (disch := omega) [go_sem, *, -List.reduceReplicate]; try rfl)) | ((first | apply go_move | apply go_assign | apply go_load | apply go_store | apply go_append | apply go_copy | apply go_copy0 | apply go_clear0 | apply go_slice3 | apply go_indexA); · (simp (disch := omega) [go_sem, *, -List.reduceReplicate]; try first | rfl | exact ⟨rfl, rfl⟩ | exact ⟨rfl, rfl, rfl⟩)) | ((first | apply go_loadv | apply go_append0 | apply go_beyond); · (simp (disch := omega) [go_sem, *, -List.reduceReplicate]; try first | rfl | exact ⟨rfl, rfl⟩ | exact ⟨rfl, rfl, rfl⟩)) | (apply go_appself; · (simp (disch := omega) [go_sem, *, -List.reduceReplicate]; try first | rfl | exact ⟨rfl, rfl⟩ | exact ⟨rfl, rfl, rfl⟩)) | ((first | (apply go_appendz; · rfl) | (apply go_new; · rfl) | (apply go_glob; · assumption) | (apply go_pure; · rfl)); · (simp (disch := omega) [go_sem, *, -List.reduceReplicate]; try first | rfl | exact ⟨rfl, rfl⟩ | exact ⟨rfl, rfl, rfl⟩)) | (apply go_read1; (· rfl); · (simp (disch := omega) [go_sem, *, -List.reduceReplicate]; try first | rfl | exact ⟨rfl, rfl⟩ | exact ⟨rfl, rfl, rfl⟩)) | (apply go_rw1; (· rfl); · (simp (disch := omega) [go_sem, *, -List.reduceReplicate]; try first | rfl | exact ⟨rfl, rfl⟩ | exact ⟨rfl, rfl, rfl⟩)) | (apply go_new1; (· rfl); · (simp (disch := omega) [go_sem, *, -List.reduceReplicate]; try first | rfl | exact ⟨rfl, rfl⟩ | exact ⟨rfl, rfl, rfl⟩)) | (apply go_conv; · (simp (disch := omega) [go_sem, *, -List.reduceReplicate]; try first | rfl | exact ⟨rfl, rfl⟩ | exact ⟨rfl, rfl, rfl⟩)) | ((first | (apply go_new; · rfl) | (apply go_pure; · rfl)); · (simp (disch := omega) [go_sem, *, -List.reduceReplicate]; simp [go_sem, *]; try first | rfl | exact ⟨rfl, rfl⟩)))
      refine go_result (by simp (disch := omega) [go_sem, *, -List.reduceReplicate]; rfl) (by simp (disch := omega) [go_sem]; try rfl) (fun id hid => by simp (disch := omega) only [upd_ne, wr_cons, wr_nil]; try exact hlow id hid)
    · have hul : u < b.length := by unfold lead at hu; omega
      have hu7 : u < 7 := by unfold lead at hu; omega
      obtain ⟨x, hx⟩ : ∃ x, b[u] = x := ⟨_, rfl⟩
      have hxx : byteAV x = .lit (.int .u8 x.toNat) := rfl
      have hxl := x.toNat_lt
      have ha : bits .and .u8 (x.toNat : Int) 127 = (x.toNat : Int) % 128 := u8_and127 _ (by omega) (by omega)
      have hgd : b.getD u 0 = x := by rw [List.getD, List.getElem?_eq_getElem hul, hx]; rfl
      have hto : (7 * (u : Int)).toNat = 7 * u := by omega
      have hsh := rd_sh x u hu7
      obtain ⟨hor, hv1⟩ := rd_or b x u hu7 hgd
      by_cases hbig : x.toNat < 128
      · have hlead : lead b = u := by
          rcases Nat.lt_or_ge u (lead b) with h | h
          · obtain ⟨y, h1, h2⟩ := leadF_lt 7 b u h
            rw [List.getElem?_eq_getElem hul, hx] at h1
            cases h1; omega
          · omega
        repeat (first | apply go_nil | apply go_kreg | apply go_kreg0 | apply go_kreg1 | (apply go_kregT; · (first | (simp [addT, CF, CFy, Ind, DisjF]; done) | (simp only [addT, CF, CFy, Ind]; repeat' (first | exact trivial | apply And.intro | exact Or.inl (by decide +kernel) | (refine Or.inr ⟨?_, ?_⟩ <;> (simp; try omega)))))) | apply go_then | apply go_then_exit | apply go_then_ret | apply go_blk | apply go_blk_ret | apply go_blk_here | (apply go_blk_there; · rfl) | apply go_seq | (apply go_region; · (simp only [List.length_cons, List.length_nil, Nat.reduceAdd, Nat.add_assoc]; rfl)) | apply go_skip | apply go_block | apply go_scope | apply go_label | apply go_exit | apply go_ret | (apply go_mut; (· assumption); · (simp (disch := omega) [go_sem, *, -List.reduceReplicate]; first | exact ⟨rfl, rfl⟩ | (simp [go_sem, *]; exact ⟨rfl, rfl⟩))) | (apply go_mutP; (· assumption); · (simp (disch := omega) [go_sem, *, -List.reduceReplicate]; try first | rfl | exact ⟨rfl, rfl⟩ | exact ⟨rfl, rfl, rfl⟩)) | (apply go_guard_in; (· rfl); · (simp (disch := omega) [go_sem, *, -List.reduceReplicate]; try first | rfl | omega)) | (apply go_guard_off; (· rfl); · (simp (disch := omega) [go_sem, *, -List.reduceReplicate]; try first | rfl | omega)) | (apply go_guard_no; (· rfl); · (simp (disch := omega) [go_sem, *, -List.reduceReplicate]; try rfl)) | ((first | apply go_move | apply go_assign | apply go_load | apply go_store | apply go_append | apply go_copy | apply go_copy0 | apply go_clear0 | apply go_slice3 | apply go_indexA); · (simp (disch := omega) [go_sem, *, -List.reduceReplicate]; try first | rfl | exact ⟨rfl, rfl⟩ | exact ⟨rfl, rfl, rfl⟩)) | ((first | apply go_loadv | apply go_append0 | apply go_beyond); · (simp (disch := omega) [go_sem, *, -List.reduceReplicate]; try first | rfl | exact ⟨rfl, rfl⟩ | exact ⟨rfl, rfl, rfl⟩)) | (apply go_appself; · (simp (disch := omega) [go_sem, *, -List.reduceReplicate]; try first | rfl | exact ⟨rfl, rfl⟩ | exact ⟨rfl, rfl, rfl⟩)) | ((first | (apply go_appendz; · rfl) | (apply go_new; · rfl) | (apply go_glob; · assumption) | (apply go_pure; · rfl)); · (simp (disch := omega) [go_sem, *, -List.reduceReplicate]; try first | rfl | exact ⟨rfl, rfl⟩ | exact ⟨rfl, rfl, rfl⟩)) | (apply go_read1; (· rfl); · (simp (disch := omega) [go_sem, *, -List.reduceReplicate]; try first | rfl | exact ⟨rfl, rfl⟩ | exact ⟨rfl, rfl, rfl⟩)) | (apply go_rw1; (· rfl); · (simp (disch := omega) [go_sem, *, -List.reduceReplicate]; try first | rfl | exact ⟨rfl, rfl⟩ | exact ⟨rfl, rfl, rfl⟩)) | (apply go_new1; (· rfl); · (simp (disch := omega) [go_sem, *, -List.reduceReplicate]; try first | rfl | exact ⟨rfl, rfl⟩ | exact ⟨rfl, rfl, rfl⟩)) | (apply go_conv; · (simp (disch := omega) [go_sem, *, -List.reduceReplicate]; try first | rfl | exact ⟨rfl, rfl⟩ | exact ⟨rfl, rfl, rfl⟩)) | ((first | (apply go_new; · rfl) | (apply go_pure; · rfl)); · (simp (disch := omega) [go_sem, *, -List.reduceReplicate]; simp [go_sem, *]; try first | rfl | exact ⟨rfl, rfl⟩)))
        refine go_condF (by simp (disch := omega) [go_sem, *, -List.reduceReplicate]; try first | rfl | omega) ?_
        repeat (first | apply go_nil | apply go_kreg | apply go_kreg0 | apply go_kreg1 | (apply go_kregT; · (first | (simp [addT, CF, CFy, Ind, DisjF]; done) | (simp only [addT, CF, CFy, Ind]; repeat' (first | exact trivial | apply And.intro | exact Or.inl (by decide +kernel) | (refine Or.inr ⟨?_, ?_⟩ <;> (simp; try omega)))))) | apply go_then | apply go_then_exit | apply go_then_ret | apply go_blk | apply go_blk_ret | apply go_blk_here | (apply go_blk_there; · rfl) | apply go_seq | (apply go_region; · (simp only [List.length_cons, List.length_nil, Nat.reduceAdd, Nat.add_assoc]; rfl)) | apply go_skip | apply go_block | apply go_scope | apply go_label | apply go_exit | apply go_ret | (apply go_mut; (· assumption); · (simp (disch := omega) [go_sem, *, -List.reduceReplicate]; first | exact ⟨rfl, rfl⟩ | (simp [go_sem, *]; exact ⟨rfl, rfl⟩))) | (apply go_mutP; (· assumption); · (simp (disch := omega) [go_sem, *, -List.reduceReplicate]; try first | rfl | exact ⟨rfl, rfl⟩ | exact ⟨rfl, rfl, rfl⟩)) | (apply go_guard_in; (· rfl); · (simp (disch := omega) [go_sem, *, -List.reduceReplicate]; try first | rfl | omega)) | (apply go_guard_off; (· rfl); · (simp (disch := omega) [go_sem, *, -List.reduceReplicate]; try first | rfl | omega)) | (apply go_guard_no; (· rfl); · (simp (disch := omega) [go_sem, *, -List.reduceReplicate]; try rfl)) | ((first | apply go_move | apply go_assign | apply go_load | apply go_store | apply go_append | apply go_copy | apply go_copy0 | apply go_clear0 | apply go_slice3 | apply go_indexA); · (simp (disch := omega) [go_sem, *, -List.reduceReplicate]; try first | rfl | exact ⟨rfl, rfl⟩ | exact ⟨rfl, rfl, rfl⟩)) | ((first | apply go_loadv | apply go_append0 | apply go_beyond); · (simp (disch := omega) [go_sem, *, -List.reduceReplicate]; try first | rfl | exact ⟨rfl, rfl⟩ | exact ⟨rfl, rfl, rfl⟩)) | (apply go_appself; · (simp (disch := omega) [go_sem, *, -List.reduceReplicate]; try first | rfl | exact ⟨rfl, rfl⟩ | exact ⟨rfl, rfl, rfl⟩)) | ((first | (apply go_appendz; · rfl) | (apply go_new; · rfl) | (apply go_glob; · assumption) | (apply go_pure; · rfl)); · (simp (disch := omega) [go_sem, *, -List.reduceReplicate]; try first | rfl | exact ⟨rfl, rfl⟩ | exact ⟨rfl, rfl, rfl⟩)) | (apply go_read1; (· rfl); · (simp (disch := omega) [go_sem, *, -List.reduceReplicate]; try first | rfl | exact ⟨rfl, rfl⟩ | exact ⟨rfl, rfl, rfl⟩)) | (apply go_rw1; (· rfl); · (simp (disch := omega) [go_sem, *, -List.reduceReplicate]; try first | rfl | exact ⟨rfl, rfl⟩ | exact ⟨rfl, rfl, rfl⟩)) | (apply go_new1; (· rfl); · (simp (disch := omega) [go_sem, *, -List.reduceReplicate]; try first | rfl | exact ⟨rfl, rfl⟩ | exact ⟨rfl, rfl, rfl⟩)) | (apply go_conv; · (simp (disch := omega) [go_sem, *, -List.reduceReplicate]; try first | rfl | exact ⟨rfl, rfl⟩ | exact ⟨rfl, rfl, rfl⟩)) | ((first | (apply go_new; · rfl) | (apply go_pure; · rfl)); · (simp (disch := omega) [go_sem, *, -List.reduceReplicate]; simp [go_sem, *]; try first | rfl | exact ⟨rfl, rfl⟩)))
        refine go_condF (by simp (disch := omega) [go_sem, *, -List.reduceReplicate]; try first | rfl | omega) ?_
        repeat (first | apply go_nil | apply go_kreg | apply go_kreg0 | apply go_kreg1 | (apply go_kregT; · (first | (simp [addT, CF, CFy, Ind, DisjF]; done) | (simp only [addT, CF, CFy, Ind]; repeat' (first | exact trivial | apply And.intro | exact Or.inl (by decide +kernel) | (refine Or.inr ⟨?_, ?_⟩ <;> (simp; try omega)))))) | apply go_then | apply go_then_exit | apply go_then_ret | apply go_blk | apply go_blk_ret | apply go_blk_here | (apply go_blk_there; · rfl) | apply go_seq | (apply go_region; · (simp only [List.length_cons, List.length_nil, Nat.reduceAdd, Nat.add_assoc]; rfl)) | apply go_skip | apply go_block | apply go_scope | apply go_label | apply go_exit | apply go_ret | (apply go_mut; (· assumption); · (simp (disch := omega) [go_sem, *, -List.reduceReplicate]; first | exact ⟨rfl, rfl⟩ | (simp [go_sem, *]; exact ⟨rfl, rfl⟩))) | (apply go_mutP; (· assumption); · (simp (disch := omega) [go_sem, *, -List.reduceReplicate]; try first | rfl | exact ⟨rfl, rfl⟩ | exact ⟨rfl, rfl, rfl⟩)) | (apply go_guard_in; (· rfl); · (simp (disch := omega) [go_sem, *, -List.reduceReplicate]; try first | rfl | omega)) | (apply go_guard_off; (· rfl); · (simp (disch := omega) [go_sem, *, -List.reduceReplicate]; try first | rfl | omega)) | (apply go_guard_no; (· rfl); · (simp (disch := omega) [go_sem, *, -List.reduceReplicate]; try rfl)) | ((first | apply go_move | apply go_assign | apply go_load | apply go_store | apply go_append | apply go_copy | apply go_copy0 | apply go_clear0 | apply go_slice3 | apply go_indexA); · (simp (disch := omega) [go_sem, *, -List.reduceReplicate]; try first | rfl | exact ⟨rfl, rfl⟩ | exact ⟨rfl, rfl, rfl⟩)) | ((first | apply go_loadv | apply go_append0 | apply go_beyond); · (simp (disch := omega) [go_sem, *, -List.reduceReplicate]; try first | rfl | exact ⟨rfl, rfl⟩ | exact ⟨rfl, rfl, rfl⟩)) | (apply go_appself; · (simp (disch := omega) [go_sem, *, -List.reduceReplicate]; try first | rfl | exact ⟨rfl, rfl⟩ | exact ⟨rfl, rfl, rfl⟩)) | ((first | (apply go_appendz; · rfl) | (apply go_new; · rfl) | (apply go_glob; · assumption) | (apply go_pure; · rfl)); · (simp (disch := omega) [go_sem, *, -List.reduceReplicate]; try first | rfl | exact ⟨rfl, rfl⟩ | exact ⟨rfl, rfl, rfl⟩)) | (apply go_read1; (· rfl); · (simp (disch := omega) [go_sem, *, -List.reduceReplicate]; try first | rfl | exact ⟨rfl, rfl⟩ | exact ⟨rfl, rfl, rfl⟩)) | (apply go_rw1; (· rfl); · (simp (disch := omega) [go_sem, *, -List.reduceReplicate]; try first | rfl | exact ⟨rfl, rfl⟩ | exact ⟨rfl, rfl, rfl⟩)) | (apply go_new1; (· rfl); · (simp (disch := omega) [go_sem, *, -List.reduceReplicate]; try first | rfl | exact ⟨rfl, rfl⟩ | exact ⟨rfl, rfl, rfl⟩)) | (apply go_conv; · (simp (disch := omega) [go_sem, *, -List.reduceReplicate]; try first | rfl | exact ⟨rfl, rfl⟩ | exact ⟨rfl, rfl, rfl⟩)) | ((first | (apply go_new; · rfl) | (apply go_pure; · rfl)); · (simp (disch := omega) [go_sem, *, -List.reduceReplicate]; simp [go_sem, *]; try first | rfl | exact ⟨rfl, rfl⟩)))
        refine go_cut [0, 5, 6, 33] fun s hcut => ?_
        have k0 := hcut 0 (by simp)
        have k5 := hcut 5 (by simp)
        have k6 := hcut 6 (by simp)
        have k33 := hcut 33 (by simp)
        simp (disch := omega) [go_sem, *] at k0 k5 k6 k33
        clear hcut h0 h5 h6
        refine go_condT (by simp (disch := omega) [go_sem, *, -List.reduceReplicate]; try first | rfl | omega) ?_
        have hlr : ∀ r, (if 0 < u ∧ x.toNat = 0 then (0, 0, 5) else if 281474976710656 < vl b (u + 1) then (0, 0, 1) else (vl b (u + 1), u + 1, 0)) = r → rdS b = r := by
          intro r hr
          unfold rdS
          rw [hlead, hgd, if_neg h7, if_neg hlen]
          exact hr
        clear hsh hor ha hle hgd hto hlead hu k33
        by_cases hz : 0 < u ∧ x.toNat = 0
        · rw [hlr _ (if_pos hz)]
          obtain ⟨hz1, hz2⟩ := hz
          repeat (first | apply go_nil | apply go_kreg | apply go_kreg0 | apply go_kreg1 | (apply go_kregT; · (first | (simp [addT, CF, CFy, Ind, DisjF]; done) | (simp only [addT, CF, CFy, Ind]; repeat' (first | exact trivial | apply And.intro | exact Or.inl (by decide +kernel) | (refine Or.inr ⟨?_, ?_⟩ <;> (simp; try omega)))))) | apply go_then | apply go_then_exit | apply go_then_ret | apply go_blk | apply go_blk_ret | apply go_blk_here | (apply go_blk_there; · rfl) | apply go_seq | (apply go_region; · (simp only [List.length_cons, List.length_nil, Nat.reduceAdd, Nat.add_assoc]; rfl)) | apply go_skip | apply go_block | apply go_scope | apply go_label | apply go_exit | apply go_ret | (apply go_mut; (· assumption); · (simp (disch := omega) [go_sem, *, -List.reduceReplicate]; first | exact ⟨rfl, rfl⟩ | (simp [go_sem, *]; exact ⟨rfl, rfl⟩))) | (apply go_mutP; (· assumption); · (simp (disch := omega) [go_sem, *, -List.reduceReplicate]; try first | rfl | exact ⟨rfl, rfl⟩ | exact ⟨rfl, rfl, rfl⟩)) | (apply go_guard_in; (· rfl); · (simp (disch := omega) [go_sem, *, -List.reduceReplicate]; try first | rfl | omega)) | (apply go_guard_off; (· rfl); · (simp (disch := omega) [go_sem, *, -List.reduceReplicate]; try first | rfl | omega)) | (apply go_guard_no; (· rfl); · (simp (disch := omega) [go_sem, *, -List.reduceReplicate]; try rfl)) | ((first | apply go_move | apply go_assign | apply go_load | apply go_store | apply go_append | apply go_copy | apply go_copy0 | apply go_clear0 | apply go_slice3 | apply go_indexA); · (simp (disch := omega) [go_sem, *, -List.reduceReplicate]; try first | rfl | exact ⟨rfl, rfl⟩ | exact ⟨rfl, rfl, rfl⟩)) | ((first | apply go_loadv | apply go_append0 | apply go_beyond); · (simp (disch := omega) [go_sem, *, -List.reduceReplicate]; try first | rfl | exact ⟨rfl, rfl⟩ | exact ⟨rfl, rfl, rfl⟩)) | (apply go_appself; · (simp (disch := omega) [go_sem, *, -List.reduceReplicate]; try first | rfl | exact ⟨rfl, rfl⟩ | exact ⟨rfl, rfl, rfl⟩)) | ((first | (apply go_appendz; · rfl) | (apply go_new; · rfl) | (apply go_glob; · assumption) | (apply go_pure; · rfl)); · (simp (disch := omega) [go_sem, *, -List.reduceReplicate]; try first | rfl | exact ⟨rfl, rfl⟩ | exact ⟨rfl, rfl, rfl⟩)) | (apply go_read1; (· rfl); · (simp (disch := omega) [go_sem, *, -List.reduceReplicate]; try first | rfl | exact ⟨rfl, rfl⟩ | exact ⟨rfl, rfl, rfl⟩)) | (apply go_rw1; (· rfl); · (simp (disch := omega) [go_sem, *, -List.reduceReplicate]; try first | rfl | exact ⟨rfl, rfl⟩ | exact ⟨rfl, rfl, rfl⟩)) | (apply go_new1; (· rfl); · (simp (disch := omega) [go_sem, *, -List.reduceReplicate]; try first | rfl | exact ⟨rfl, rfl⟩ | exact ⟨rfl, rfl, rfl⟩)) | (apply go_conv; · (simp (disch := omega) [go_sem, *, -List.reduceReplicate]; try first | rfl | exact ⟨rfl, rfl⟩ | exact ⟨rfl, rfl, rfl⟩)) | ((first | (apply go_new; · rfl) | (apply go_pure; · rfl)); · (simp (disch := omega) [go_sem, *, -List.reduceReplicate]; simp [go_sem, *]; try first | rfl | exact ⟨rfl, rfl⟩)))
          refine go_condT (by simp (disch := omega) [go_sem, *, -List.reduceReplicate]; try first | rfl | omega) ?_
          repeat (first | apply go_nil | apply go_kreg | apply go_kreg0 | apply go_kreg1 | (apply go_kregT; · (first | (simp [addT, CF, CFy, Ind, DisjF]; done) | (simp only [addT, CF, CFy, Ind]; repeat' (first | exact trivial | apply And.intro | exact Or.inl (by decide +kernel) | (refine Or.inr ⟨?_, ?_⟩ <;> (simp; try omega)))))) | apply go_then | apply go_then_exit | apply go_then_ret | apply go_blk | apply go_blk_ret | apply go_blk_here | (apply go_blk_there; · rfl) | apply go_seq | (apply go_region; · (simp only [List.length_cons, List.length_nil, Nat.reduceAdd, Nat.add_assoc]; rfl)) | apply go_skip | apply go_block | apply go_scope | apply go_label | apply go_exit | apply go_ret | (apply go_mut; (· assumption); · (simp (disch := omega) [go_sem, *, -List.reduceReplicate]; first | exact ⟨rfl, rfl⟩ | (simp [go_sem, *]; exact ⟨rfl, rfl⟩))) | (apply go_mutP; (· assumption); · (simp (disch := omega) [go_sem, *, -List.reduceReplicate]; try first | rfl | exact ⟨rfl, rfl⟩ | exact ⟨rfl, rfl, rfl⟩)) | (apply go_guard_in; (· rfl); · (simp (disch := omega) [go_sem, *, -List.reduceReplicate]; try first | rfl | omega)) | (apply go_guard_off; (· rfl); · (simp (disch := omega) [go_sem, *, -List.reduceReplicate]; try first | rfl | omega)) | (apply go_guard_no; (· rfl); · (simp (disch := omega) [go_sem, *, -List.reduceReplicate]; try rfl)) | ((first | apply go_move | apply go_assign | apply go_load | apply go_store | apply go_append | apply go_copy | apply go_copy0 | apply go_clear0 | apply go_slice3 | apply go_indexA); · (simp (disch := omega) [go_sem, *, -List.reduceReplicate]; try first | rfl | exact ⟨rfl, rfl⟩ | exact ⟨rfl, rfl, rfl⟩)) | ((first | apply go_loadv | apply go_append0 | apply go_beyond); · (simp (disch := omega) [go_sem, *, -List.reduceReplicate]; try first | rfl | exact ⟨rfl, rfl⟩ | exact ⟨rfl, rfl, rfl⟩)) | (apply go_appself; · (simp (disch := omega) [go_sem, *, -List.reduceReplicate]; try first | rfl | exact ⟨rfl, rfl⟩ | exact ⟨rfl, rfl, rfl⟩)) | ((first | (apply go_appendz; · rfl) | (apply go_new; · rfl) | (apply go_glob; · assumption) | (apply go_pure; · rfl)); · (simp (disch := omega) [go_sem, *, -List.reduceReplicate]; try first | rfl | exact ⟨rfl, rfl⟩ | exact ⟨rfl, rfl, rfl⟩)) | (apply go_read1; (· rfl); · (simp (disch := omega) [go_sem, *, -List.reduceReplicate]; try first | rfl | exact ⟨rfl, rfl⟩ | exact ⟨rfl, rfl, rfl⟩)) | (apply go_rw1; (· rfl); · (simp (disch := omega) [go_sem, *, -List.reduceReplicate]; try first | rfl | exact ⟨rfl, rfl⟩ | exact ⟨rfl, rfl, rfl⟩)) | (apply go_new1; (· rfl); · (simp (disch := omega) [go_sem, *, -List.reduceReplicate]; try first | rfl | exact ⟨rfl, rfl⟩ | exact ⟨rfl, rfl, rfl⟩)) | (apply go_conv; · (simp (disch := omega) [go_sem, *, -List.reduceReplicate]; try first | rfl | exact ⟨rfl, rfl⟩ | exact ⟨rfl, rfl, rfl⟩)) | ((first | (apply go_new; · rfl) | (apply go_pure; · rfl)); · (simp (disch := omega) [go_sem, *, -List.reduceReplicate]; simp [go_sem, *]; try first | rfl | exact ⟨rfl, rfl⟩)))
          refine go_result (by simp (disch := omega) [go_sem, *, -List.reduceReplicate]; rfl) (by simp (disch := omega) [go_sem]; try rfl) (fun id hid => by simp (disch := omega) only [upd_ne, wr_cons, wr_nil]; try exact hlow id hid)
        · by_cases hu0 : u = 0
          · have hu1 : ¬ (1 < (u : Int) + 1) := by omega
            have hu2 : ¬ (0 < u) := by omega
            clear hu0
            repeat (first | apply go_nil | apply go_kreg | apply go_kreg0 | apply go_kreg1 | (apply go_kregT; · (first | (simp [addT, CF, CFy, Ind, DisjF]; done) | (simp only [addT, CF, CFy, Ind]; repeat' (first | exact trivial | apply And.intro | exact Or.inl (by decide +kernel) | (refine Or.inr ⟨?_, ?_⟩ <;> (simp; try omega)))))) | apply go_then | apply go_then_exit | apply go_then_ret | apply go_blk | apply go_blk_ret | apply go_blk_here | (apply go_blk_there; · rfl) | apply go_seq | (apply go_region; · (simp only [List.length_cons, List.length_nil, Nat.reduceAdd, Nat.add_assoc]; rfl)) | apply go_skip | apply go_block | apply go_scope | apply go_label | apply go_exit | apply go_ret | (apply go_mut; (· assumption); · (simp (disch := omega) [go_sem, *, -List.reduceReplicate]; first | exact ⟨rfl, rfl⟩ | (simp [go_sem, *]; exact ⟨rfl, rfl⟩))) | (apply go_mutP; (· assumption); · (simp (disch := omega) [go_sem, *, -List.reduceReplicate]; try first | rfl | exact ⟨rfl, rfl⟩ | exact ⟨rfl, rfl, rfl⟩)) | (apply go_guard_in; (· rfl); · (simp (disch := omega) [go_sem, *, -List.reduceReplicate]; try first | rfl | omega)) | (apply go_guard_off; (· rfl); · (simp (disch := omega) [go_sem, *, -List.reduceReplicate]; try first | rfl | omega)) | (apply go_guard_no; (· rfl); · (simp (disch := omega) [go_sem, *, -List.reduceReplicate]; try rfl)) | ((first | apply go_move | apply go_assign | apply go_load | apply go_store | apply go_append | apply go_copy | apply go_copy0 | apply go_clear0 | apply go_slice3 | apply go_indexA); · (simp (disch := omega) [go_sem, *, -List.reduceReplicate]; try first | rfl | exact ⟨rfl, rfl⟩ | exact ⟨rfl, rfl, rfl⟩)) | ((first | apply go_loadv | apply go_append0 | apply go_beyond); · (simp (disch := omega) [go_sem, *, -List.reduceReplicate]; try first | rfl | exact ⟨rfl, rfl⟩ | exact ⟨rfl, rfl, rfl⟩)) | (apply go_appself; · (simp (disch := omega) [go_sem, *, -List.reduceReplicate]; try first | rfl | exact ⟨rfl, rfl⟩ | exact ⟨rfl, rfl, rfl⟩)) | ((first | (apply go_appendz; · rfl) | (apply go_new; · rfl) | (apply go_glob; · assumption) | (apply go_pure; · rfl)); · (simp (disch := omega) [go_sem, *, -List.reduceReplicate]; try first | rfl | exact ⟨rfl, rfl⟩ | exact ⟨rfl, rfl, rfl⟩)) | (apply go_read1; (· rfl); · (simp (disch := omega) [go_sem, *, -List.reduceReplicate]; try first | rfl | exact ⟨rfl, rfl⟩ | exact ⟨rfl, rfl, rfl⟩)) | (apply go_rw1; (· rfl); · (simp (disch := omega) [go_sem, *, -List.reduceReplicate]; try first | rfl | exact ⟨rfl, rfl⟩ | exact ⟨rfl, rfl, rfl⟩)) | (apply go_new1; (· rfl); · (simp (disch := omega) [go_sem, *, -List.reduceReplicate]; try first | rfl | exact ⟨rfl, rfl⟩ | exact ⟨rfl, rfl, rfl⟩)) | (apply go_conv; · (simp (disch := omega) [go_sem, *, -List.reduceReplicate]; try first | rfl | exact ⟨rfl, rfl⟩ | exact ⟨rfl, rfl, rfl⟩)) | ((first | (apply go_new; · rfl) | (apply go_pure; · rfl)); · (simp (disch := omega) [go_sem, *, -List.reduceReplicate]; simp [go_sem, *]; try first | rfl | exact ⟨rfl, rfl⟩)))
            refine go_condF (by simp (disch := omega) [go_sem, *, -List.reduceReplicate]; try first | rfl | omega) ?_
            repeat (first | apply go_nil | apply go_kreg | apply go_kreg0 | apply go_kreg1 | (apply go_kregT; · (first | (simp [addT, CF, CFy, Ind, DisjF]; done) | (simp only [addT, CF, CFy, Ind]; repeat' (first | exact trivial | apply And.intro | exact Or.inl (by decide +kernel) | (refine Or.inr ⟨?_, ?_⟩ <;> (simp; try omega)))))) | apply go_then | apply go_then_exit | apply go_then_ret | apply go_blk | apply go_blk_ret | apply go_blk_here | (apply go_blk_there; · rfl) | apply go_seq | (apply go_region; · (simp only [List.length_cons, List.length_nil, Nat.reduceAdd, Nat.add_assoc]; rfl)) | apply go_skip | apply go_block | apply go_scope | apply go_label | apply go_exit | apply go_ret | (apply go_mut; (· assumption); · (simp (disch := omega) [go_sem, *, -List.reduceReplicate]; first | exact ⟨rfl, rfl⟩ | (simp [go_sem, *]; exact ⟨rfl, rfl⟩))) | (apply go_mutP; (· assumption); · (simp (disch := omega) [go_sem, *, -List.reduceReplicate]; try first | rfl | exact ⟨rfl, rfl⟩ | exact ⟨rfl, rfl, rfl⟩)) | (apply go_guard_in; (· rfl); · (simp (disch := omega) [go_sem, *, -List.reduceReplicate]; try first | rfl | omega)) | (apply go_guard_off; (· rfl); · (simp (disch := omega) [go_sem, *, -List.reduceReplicate]; try first | rfl | omega)) | (apply go_guard_no; (· rfl); · (simp (disch := omega) [go_sem, *, -List.reduceReplicate]; try rfl)) | ((first | apply go_move | apply go_assign | apply go_load | apply go_store | apply go_append | apply go_copy | apply go_copy0 | apply go_clear0 | apply go_slice3 | apply go_indexA); · (simp (disch := omega) [go_sem, *, -List.reduceReplicate]; try first | rfl | exact ⟨rfl, rfl⟩ | exact ⟨rfl, rfl, rfl⟩)) | ((first | apply go_loadv | apply go_append0 | apply go_beyond); · (simp (disch := omega) [go_sem, *, -List.reduceReplicate]; try first | rfl | exact ⟨rfl, rfl⟩ | exact ⟨rfl, rfl, rfl⟩)) | (apply go_appself; · (simp (disch := omega) [go_sem, *, -List.reduceReplicate]; try first | rfl | exact ⟨rfl, rfl⟩ | exact ⟨rfl, rfl, rfl⟩)) | ((first | (apply go_appendz; · rfl) | (apply go_new; · rfl) | (apply go_glob; · assumption) | (apply go_pure; · rfl)); · (simp (disch := omega) [go_sem, *, -List.reduceReplicate]; try first | rfl | exact ⟨rfl, rfl⟩ | exact ⟨rfl, rfl, rfl⟩)) | (apply go_read1; (· rfl); · (simp (disch := omega) [go_sem, *, -List.reduceReplicate]; try first | rfl | exact ⟨rfl, rfl⟩ | exact ⟨rfl, rfl, rfl⟩)) | (apply go_rw1; (· rfl); · (simp (disch := omega) [go_sem, *, -List.reduceReplicate]; try first | rfl | exact ⟨rfl, rfl⟩ | exact ⟨rfl, rfl, rfl⟩)) | (apply go_new1; (· rfl); · (simp (disch := omega) [go_sem, *, -List.reduceReplicate]; try first | rfl | exact ⟨rfl, rfl⟩ | exact ⟨rfl, rfl, rfl⟩)) | (apply go_conv; · (simp (disch := omega) [go_sem, *, -List.reduceReplicate]; try first | rfl | exact ⟨rfl, rfl⟩ | exact ⟨rfl, rfl, rfl⟩)) | ((first | (apply go_new; · rfl) | (apply go_pure; · rfl)); · (simp (disch := omega) [go_sem, *, -List.reduceReplicate]; simp [go_sem, *]; try first | rfl | exact ⟨rfl, rfl⟩)))
            by_cases hm : 281474976710656 < vl b (u + 1)
            · rw [hlr _ ((if_neg hz).trans (if_pos hm))]
              refine go_condT (by simp (disch := omega) [go_sem, *, -List.reduceReplicate]; try first | rfl | omega) ?_
              repeat (first | apply go_nil | apply go_kreg | apply go_kreg0 | apply go_kreg1 | (apply go_kregT; · (first | (simp [addT, CF, CFy, Ind, DisjF]; done) | (simp only [addT, CF, CFy, Ind]; repeat' (first | exact trivial | apply And.intro | exact Or.inl (by decide +kernel) | (refine Or.inr ⟨?_, ?_⟩ <;> (simp; try omega)))))) | apply go_then | apply go_then_exit | apply go_then_ret | apply go_blk | apply go_blk_ret | apply go_blk_here | (apply go_blk_there; · rfl) | apply go_seq | (apply go_region; · (simp only [List.length_cons, List.length_nil, Nat.reduceAdd, Nat.add_assoc]; rfl)) | apply go_skip | apply go_block | apply go_scope | apply go_label | apply go_exit | apply go_ret | (apply go_mut; (· assumption); · (simp (disch := omega) [go_sem, *, -List.reduceReplicate]; first | exact ⟨rfl, rfl⟩ | (simp [go_sem, *]; exact ⟨rfl, rfl⟩))) | (apply go_mutP; (· assumption); · (simp (disch := omega) [go_sem, *, -List.reduceReplicate]; try first | rfl | exact ⟨rfl, rfl⟩ | exact ⟨rfl, rfl, rfl⟩)) | (apply go_guard_in; (· rfl); · (simp (disch := omega) [go_sem, *, -List.reduceReplicate]; try first | rfl | omega)) | (apply go_guard_off; (· rfl); · (simp (disch := omega) [go_sem, *, -List.reduceReplicate]; try first | rfl | omega)) | (apply go_guard_no; (· rfl); · (simp (disch := omega) [go_sem, *, -List.reduceReplicate]; try rfl)) | ((first | apply go_move | apply go_assign | apply go_load | apply go_store | apply go_append | apply go_copy | apply go_copy0 | apply go_clear0 | apply go_slice3 | apply go_indexA); · (simp (disch := omega) [go_sem, *, -List.reduceReplicate]; try first | rfl | exact ⟨rfl, rfl⟩ | exact ⟨rfl, rfl, rfl⟩)) | ((first | apply go_loadv | apply go_append0 | apply go_beyond); · (simp (disch := omega) [go_sem, *, -List.reduceReplicate]; try first | rfl | exact ⟨rfl, rfl⟩ | exact ⟨rfl, rfl, rfl⟩)) | (apply go_appself; · (simp (disch := omega) [go_sem, *, -List.reduceReplicate]; try first | rfl | exact ⟨rfl, rfl⟩ | exact ⟨rfl, rfl, rfl⟩)) | ((first | (apply go_appendz; · rfl) | (apply go_new; · rfl) | (apply go_glob; · assumption) | (apply go_pure; · rfl)); · (simp (disch := omega) [go_sem, *, -List.reduceReplicate]; try first | rfl | exact ⟨rfl, rfl⟩ | exact ⟨rfl, rfl, rfl⟩)) | (apply go_read1; (· rfl); · (simp (disch := omega) [go_sem, *, -List.reduceReplicate]; try first | rfl | exact ⟨rfl, rfl⟩ | exact ⟨rfl, rfl, rfl⟩)) | (apply go_rw1; (· rfl); · (simp (disch := omega) [go_sem, *, -List.reduceReplicate]; try first | rfl | exact ⟨rfl, rfl⟩ | exact ⟨rfl, rfl, rfl⟩)) | (apply go_new1; (· rfl); · (simp (disch := omega) [go_sem, *, -List.reduceReplicate]; try first | rfl | exact ⟨rfl, rfl⟩ | exact ⟨rfl, rfl, rfl⟩)) | (apply go_conv; · (simp (disch := omega) [go_sem, *, -List.reduceReplicate]; try first | rfl | exact ⟨rfl, rfl⟩ | exact ⟨rfl, rfl, rfl⟩)) | ((first | (apply go_new; · rfl) | (apply go_pure; · rfl)); · (simp (disch := omega) [go_sem, *, -List.reduceReplicate]; simp [go_sem, *]; try first | rfl | exact ⟨rfl, rfl⟩)))
              refine go_result (by simp (disch := omega) [go_sem, *, -List.reduceReplicate]; rfl) (by simp (disch := omega) [go_sem]; try rfl) (fun id hid => by simp (disch := omega) only [upd_ne, wr_cons, wr_nil]; try exact hlow id hid)
            · rw [hlr _ ((if_neg hz).trans (if_neg hm))]
              refine go_condF (by simp (disch := omega) [go_sem, *, -List.reduceReplicate]; try first | rfl | omega) ?_
              repeat (first | apply go_nil | apply go_kreg | apply go_kreg0 | apply go_kreg1 | (apply go_kregT; · (first | (simp [addT, CF, CFy, Ind, DisjF]; done) | (simp only [addT, CF, CFy, Ind]; repeat' (first | exact trivial | apply And.intro | exact Or.inl (by decide +kernel) | (refine Or.inr ⟨?_, ?_⟩ <;> (simp; try omega)))))) | apply go_then | apply go_then_exit | apply go_then_ret | apply go_blk | apply go_blk_ret | apply go_blk_here | (apply go_blk_there; · rfl) | apply go_seq | (apply go_region; · (simp only [List.length_cons, List.length_nil, Nat.reduceAdd, Nat.add_assoc]; rfl)) | apply go_skip | apply go_block | apply go_scope | apply go_label | apply go_exit | apply go_ret | (apply go_mut; (· assumption); · (simp (disch := omega) [go_sem, *, -List.reduceReplicate]; first | exact ⟨rfl, rfl⟩ | (simp [go_sem, *]; exact ⟨rfl, rfl⟩))) | (apply go_mutP; (· assumption); · (simp (disch := omega) [go_sem, *, -List.reduceReplicate]; try first | rfl | exact ⟨rfl, rfl⟩ | exact ⟨rfl, rfl, rfl⟩)) | (apply go_guard_in; (· rfl); · (simp (disch := omega) [go_sem, *, -List.reduceReplicate]; try first | rfl | omega)) | (apply go_guard_off; (· rfl); · (simp (disch := omega) [go_sem, *, -List.reduceReplicate]; try first | rfl | omega)) | (apply go_guard_no; (· rfl); · (simp (disch := omega) [go_sem, *, -List.reduceReplicate]; try rfl)) | ((first | apply go_move | apply go_assign | apply go_load | apply go_store | apply go_append | apply go_copy | apply go_copy0 | apply go_clear0 | apply go_slice3 | apply go_indexA); · (simp (disch := omega) [go_sem, *, -List.reduceReplicate]; try first | rfl | exact ⟨rfl, rfl⟩ | exact ⟨rfl, rfl, rfl⟩)) | ((first | apply go_loadv | apply go_append0 | apply go_beyond); · (simp (disch := omega) [go_sem, *, -List.reduceReplicate]; try first | rfl | exact ⟨rfl, rfl⟩ | exact ⟨rfl, rfl, rfl⟩)) | (apply go_appself; · (simp (disch := omega) [go_sem, *, -List.reduceReplicate]; try first | rfl | exact ⟨rfl, rfl⟩ | exact ⟨rfl, rfl, rfl⟩)) | ((first | (apply go_appendz; · rfl) | (apply go_new; · rfl) | (apply go_glob; · assumption) | (apply go_pure; · rfl)); · (simp (disch := omega) [go_sem, *, -List.reduceReplicate]; try first | rfl | exact ⟨rfl, rfl⟩ | exact ⟨rfl, rfl, rfl⟩)) | (apply go_read1; (· rfl); · (simp (disch := omega) [go_sem, *, -List.reduceReplicate]; try first | rfl | exact ⟨rfl, rfl⟩ | exact ⟨rfl, rfl, rfl⟩)) | (apply go_rw1; (· rfl); · (simp (disch := omega) [go_sem, *, -List.reduceReplicate]; try first | rfl | exact ⟨rfl, rfl⟩ | exact ⟨rfl, rfl, rfl⟩)) | (apply go_new1; (· rfl); · (simp (disch := omega) [go_sem, *, -List.reduceReplicate]; try first | rfl | exact ⟨rfl, rfl⟩ | exact ⟨rfl, rfl, rfl⟩)) | (apply go_conv; · (simp (disch := omega) [go_sem, *, -List.reduceReplicate]; try first | rfl | exact ⟨rfl, rfl⟩ | exact ⟨rfl, rfl, rfl⟩)) | ((first | (apply go_new; · rfl) | (apply go_pure; · rfl)); · (simp (disch := omega) [go_sem, *, -List.reduceReplicate]; simp [go_sem, *]; try first | rfl | exact ⟨rfl, rfl⟩)))
              refine go_result (by simp (disch := omega) [go_sem, *, -List.reduceReplicate]; rfl) (by simp (disch := omega) [go_sem]; try rfl) (fun id hid => by simp (disch := omega) only [upd_ne, wr_cons, wr_nil]; try exact hlow id hid)
          · have hu2 : 0 < u := by omega
            have hz0 : ¬ x.toNat = 0 := fun h => hz ⟨hu2, h⟩
            repeat (first | apply go_nil | apply go_kreg | apply go_kreg0 | apply go_kreg1 | (apply go_kregT; · (first | (simp [addT, CF, CFy, Ind, DisjF]; done) | (simp only [addT, CF, CFy, Ind]; repeat' (first | exact trivial | apply And.intro | exact Or.inl (by decide +kernel) | (refine Or.inr ⟨?_, ?_⟩ <;> (simp; try omega)))))) | apply go_then | apply go_then_exit | apply go_then_ret | apply go_blk | apply go_blk_ret | apply go_blk_here | (apply go_blk_there; · rfl) | apply go_seq | (apply go_region; · (simp only [List.length_cons, List.length_nil, Nat.reduceAdd, Nat.add_assoc]; rfl)) | apply go_skip | apply go_block | apply go_scope | apply go_label | apply go_exit | apply go_ret | (apply go_mut; (· assumption); · (simp (disch := omega) [go_sem, *, -List.reduceReplicate]; first | exact ⟨rfl, rfl⟩ | (simp [go_sem, *]; exact ⟨rfl, rfl⟩))) | (apply go_mutP; (· assumption); · (simp (disch := omega) [go_sem, *, -List.reduceReplicate]; try first | rfl | exact ⟨rfl, rfl⟩ | exact ⟨rfl, rfl, rfl⟩)) | (apply go_guard_in; (· rfl); · (simp (disch := omega) [go_sem, *, -List.reduceReplicate]; try first | rfl | omega)) | (apply go_guard_off; (· rfl); · (simp (disch := omega) [go_sem, *, -List.reduceReplicate]; try first | rfl | omega)) | (apply go_guard_no; (· rfl); · (simp (disch := omega) [go_sem, *, -List.reduceReplicate]; try rfl)) | ((first | apply go_move | apply go_assign | apply go_load | apply go_store | apply go_append | apply go_copy | apply go_copy0 | apply go_clear0 | apply go_slice3 | apply go_indexA); · (simp (disch := omega) [go_sem, *, -List.reduceReplicate]; try first | rfl | exact ⟨rfl, rfl⟩ | exact ⟨rfl, rfl, rfl⟩)) | ((first | apply go_loadv | apply go_append0 | apply go_beyond); · (simp (disch := omega) [go_sem, *, -List.reduceReplicate]; try first | rfl | exact ⟨rfl, rfl⟩ | exact ⟨rfl, rfl, rfl⟩)) | (apply go_appself; · (simp (disch := omega) [go_sem, *, -List.reduceReplicate]; try first | rfl | exact ⟨rfl, rfl⟩ | exact ⟨rfl, rfl, rfl⟩)) | ((first | (apply go_appendz; · rfl) | (apply go_new; · rfl) | (apply go_glob; · assumption) | (apply go_pure; · rfl)); · (simp (disch := omega) [go_sem, *, -List.reduceReplicate]; try first | rfl | exact ⟨rfl, rfl⟩ | exact ⟨rfl, rfl, rfl⟩)) | (apply go_read1; (· rfl); · (simp (disch := omega) [go_sem, *, -List.reduceReplicate]; try first | rfl | exact ⟨rfl, rfl⟩ | exact ⟨rfl, rfl, rfl⟩)) | (apply go_rw1; (· rfl); · (simp (disch := omega) [go_sem, *, -List.reduceReplicate]; try first | rfl | exact ⟨rfl, rfl⟩ | exact ⟨rfl, rfl, rfl⟩)) | (apply go_new1; (· rfl); · (simp (disch := omega) [go_sem, *, -List.reduceReplicate]; try first | rfl | exact ⟨rfl, rfl⟩ | exact ⟨rfl, rfl, rfl⟩)) | (apply go_conv; · (simp (disch := omega) [go_sem, *, -List.reduceReplicate]; try first | rfl | exact ⟨rfl, rfl⟩ | exact ⟨rfl, rfl, rfl⟩)) | ((first | (apply go_new; · rfl) | (apply go_pure; · rfl)); · (simp (disch := omega) [go_sem, *, -List.reduceReplicate]; simp [go_sem, *]; try first | rfl | exact ⟨rfl, rfl⟩)))
            refine go_condF (by simp (disch := omega) [go_sem, *, -List.reduceReplicate]; try first | rfl | omega) ?_
            repeat (first | apply go_nil | apply go_kreg | apply go_kreg0 | apply go_kreg1 | (apply go_kregT; · (first | (simp [addT, CF, CFy, Ind, DisjF]; done) | (simp only [addT, CF, CFy, Ind]; repeat' (first | exact trivial | apply And.intro | exact Or.inl (by decide +kernel) | (refine Or.inr ⟨?_, ?_⟩ <;> (simp; try omega)))))) | apply go_then | apply go_then_exit | apply go_then_ret | apply go_blk | apply go_blk_ret | apply go_blk_here | (apply go_blk_there; · rfl) | apply go_seq | (apply go_region; · (simp only [List.length_cons, List.length_nil, Nat.reduceAdd, Nat.add_assoc]; rfl)) | apply go_skip | apply go_block | apply go_scope | apply go_label | apply go_exit | apply go_ret | (apply go_mut; (· assumption); · (simp (disch := omega) [go_sem, *, -List.reduceReplicate]; first | exact ⟨rfl, rfl⟩ | (simp [go_sem, *]; exact ⟨rfl, rfl⟩))) | (apply go_mutP; (· assumption); · (simp (disch := omega) [go_sem, *, -List.reduceReplicate]; try first | rfl | exact ⟨rfl, rfl⟩ | exact ⟨rfl, rfl, rfl⟩)) | (apply go_guard_in; (· rfl); · (simp (disch := omega) [go_sem, *, -List.reduceReplicate]; try first | rfl | omega)) | (apply go_guard_off; (· rfl); · (simp (disch := omega) [go_sem, *, -List.reduceReplicate]; try first | rfl | omega)) | (apply go_guard_no; (· rfl); · (simp (disch := omega) [go_sem, *, -List.reduceReplicate]; try rfl)) | ((first | apply go_move | apply go_assign | apply go_load | apply go_store | apply go_append | apply go_copy | apply go_copy0 | apply go_clear0 | apply go_slice3 | apply go_indexA); · (simp (disch := omega) [go_sem, *, -List.reduceReplicate]; try first | rfl | exact ⟨rfl, rfl⟩ | exact ⟨rfl, rfl, rfl⟩)) | ((first | apply go_loadv | apply go_append0 | apply go_beyond); · (simp (disch := omega) [go_sem, *, -List.reduceReplicate]; try first | rfl | exact ⟨rfl, rfl⟩ | exact ⟨rfl, rfl, rfl⟩)) | (apply go_appself; · (simp (disch := omega) [go_sem, *, -List.reduceReplicate]; try first | rfl | exact ⟨rfl, rfl⟩ | exact ⟨rfl, rfl, rfl⟩)) | ((first | (apply go_appendz; · rfl) | (apply go_new; · rfl) | (apply go_glob; · assumption) | (apply go_pure; · rfl)); · (simp (disch := omega) [go_sem, *, -List.reduceReplicate]; try first | rfl | exact ⟨rfl, rfl⟩ | exact ⟨rfl, rfl, rfl⟩)) | (apply go_read1; (· rfl); · (simp (disch := omega) [go_sem, *, -List.reduceReplicate]; try first | rfl | exact ⟨rfl, rfl⟩ | exact ⟨rfl, rfl, rfl⟩)) | (apply go_rw1; (· rfl); · (simp (disch := omega) [go_sem, *, -List.reduceReplicate]; try first | rfl | exact ⟨rfl, rfl⟩ | exact ⟨rfl, rfl, rfl⟩)) | (apply go_new1; (· rfl); · (simp (disch := omega) [go_sem, *, -List.reduceReplicate]; try first | rfl | exact ⟨rfl, rfl⟩ | exact ⟨rfl, rfl, rfl⟩)) | (apply go_conv; · (simp (disch := omega) [go_sem, *, -List.reduceReplicate]; try first | rfl | exact ⟨rfl, rfl⟩ | exact ⟨rfl, rfl, rfl⟩)) | ((first | (apply go_new; · rfl) | (apply go_pure; · rfl)); · (simp (disch := omega) [go_sem, *, -List.reduceReplicate]; simp [go_sem, *]; try first | rfl | exact ⟨rfl, rfl⟩)))
            by_cases hm : 281474976710656 < vl b (u + 1)
            · rw [hlr _ ((if_neg hz).trans (if_pos hm))]
              refine go_condT (by simp (disch := omega) [go_sem, *, -List.reduceReplicate]; try first | rfl | omega) ?_
              repeat (first | apply go_nil | apply go_kreg | apply go_kreg0 | apply go_kreg1 | (apply go_kregT; · (first | (simp [addT, CF, CFy, Ind, DisjF]; done) | (simp only [addT, CF, CFy, Ind]; repeat' (first | exact trivial | apply And.intro | exact Or.inl (by decide +kernel) | (refine Or.inr ⟨?_, ?_⟩ <;> (simp; try omega)))))) | apply go_then | apply go_then_exit | apply go_then_ret | apply go_blk | apply go_blk_ret | apply go_blk_here | (apply go_blk_there; · rfl) | apply go_seq | (apply go_region; · (simp only [List.length_cons, List.length_nil, Nat.reduceAdd, Nat.add_assoc]; rfl)) | apply go_skip | apply go_block | apply go_scope | apply go_label | apply go_exit | apply go_ret | (apply go_mut; (· assumption); · (simp (disch := omega) [go_sem, *, -List.reduceReplicate]; first | exact ⟨rfl, rfl⟩ | (simp [go_sem, *]; exact ⟨rfl, rfl⟩))) | (apply go_mutP; (· assumption); · (simp (disch := omega) [go_sem, *, -List.reduceReplicate]; try first | rfl | exact ⟨rfl, rfl⟩ | exact ⟨rfl, rfl, rfl⟩)) | (apply go_guard_in; (· rfl); · (simp (disch := omega) [go_sem, *, -List.reduceReplicate]; try first | rfl | omega)) | (apply go_guard_off; (· rfl); · (simp (disch := omega) [go_sem, *, -List.reduceReplicate]; try first | rfl | omega)) | (apply go_guard_no; (· rfl); · (simp (disch := omega) [go_sem, *, -List.reduceReplicate]; try rfl)) | ((first | apply go_move | apply go_assign | apply go_load | apply go_store | apply go_append | apply go_copy | apply go_copy0 | apply go_clear0 | apply go_slice3 | apply go_indexA); · (simp (disch := omega) [go_sem, *, -List.reduceReplicate]; try first | rfl | exact ⟨rfl, rfl⟩ | exact ⟨rfl, rfl, rfl⟩)) | ((first | apply go_loadv | apply go_append0 | apply go_beyond); · (simp (disch := omega) [go_sem, *, -List.reduceReplicate]; try first | rfl | exact ⟨rfl, rfl⟩ | exact ⟨rfl, rfl, rfl⟩)) | (apply go_appself; · (simp (disch := omega) [go_sem, *, -List.reduceReplicate]; try first | rfl | exact ⟨rfl, rfl⟩ | exact ⟨rfl, rfl, rfl⟩)) | ((first | (apply go_appendz; · rfl) | (apply go_new; · rfl) | (apply go_glob; · assumption) | (apply go_pure; · rfl)); · (simp (disch := omega) [go_sem, *, -List.reduceReplicate]; try first | rfl | exact ⟨rfl, rfl⟩ | exact ⟨rfl, rfl, rfl⟩)) | (apply go_read1; (· rfl); · (simp (disch := omega) [go_sem, *, -List.reduceReplicate]; try first | rfl | exact ⟨rfl, rfl⟩ | exact ⟨rfl, rfl, rfl⟩)) | (apply go_rw1; (· rfl); · (simp (disch := omega) [go_sem, *, -List.reduceReplicate]; try first | rfl | exact ⟨rfl, rfl⟩ | exact ⟨rfl, rfl, rfl⟩)) | (apply go_new1; (· rfl); · (simp (disch := omega) [go_sem, *, -List.reduceReplicate]; try first | rfl | exact ⟨rfl, rfl⟩ | exact ⟨rfl, rfl, rfl⟩)) | (apply go_conv; · (simp (disch := omega) [go_sem, *, -List.reduceReplicate]; try first | rfl | exact ⟨rfl, rfl⟩ | exact ⟨rfl, rfl, rfl⟩)) | ((first | (apply go_new; · rfl) | (apply go_pure; · rfl)); · (simp (disch := omega) [go_sem, *, -List.reduceReplicate]; simp [go_sem, *]; try first | rfl | exact ⟨rfl, rfl⟩)))
              refine go_result (by simp (disch := omega) [go_sem, *, -List.reduceReplicate]; rfl) (by simp (disch := omega) [go_sem]; try rfl) (fun id hid => by simp (disch := omega) only [upd_ne, wr_cons, wr_nil]; try exact hlow id hid)
            · rw [hlr _ ((if_neg hz).trans (if_neg hm))]
              refine go_condF (by simp (disch := omega) [go_sem, *, -List.reduceReplicate]; try first | rfl | omega) ?_
              repeat (first | apply go_nil | apply go_kreg | apply go_kreg0 | apply go_kreg1 | (apply go_kregT; · (first | (simp [addT, CF, CFy, Ind, DisjF]; done) | (simp only [addT, CF, CFy, Ind]; repeat' (first | exact trivial | apply And.intro | exact Or.inl (by decide +kernel) | (refine Or.inr ⟨?_, ?_⟩ <;> (simp; try omega)))))) | apply go_then | apply go_then_exit | apply go_then_ret | apply go_blk | apply go_blk_ret | apply go_blk_here | (apply go_blk_there; · rfl) | apply go_seq | (apply go_region; · (simp only [List.length_cons, List.length_nil, Nat.reduceAdd, Nat.add_assoc]; rfl)) | apply go_skip | apply go_block | apply go_scope | apply go_label | apply go_exit | apply go_ret | (apply go_mut; (· assumption); · (simp (disch := omega) [go_sem, *, -List.reduceReplicate]; first | exact ⟨rfl, rfl⟩ | (simp [go_sem, *]; exact ⟨rfl, rfl⟩))) | (apply go_mutP; (· assumption); · (simp (disch := omega) [go_sem, *, -List.reduceReplicate]; try first | rfl | exact ⟨rfl, rfl⟩ | exact ⟨rfl, rfl, rfl⟩)) | (apply go_guard_in; (· rfl); · (simp (disch := omega) [go_sem, *, -List.reduceReplicate]; try first | rfl | omega)) | (apply go_guard_off; (· rfl); · (simp (disch := omega) [go_sem, *, -List.reduceReplicate]; try first | rfl | omega)) | (apply go_guard_no; (· rfl); · (simp (disch := omega) [go_sem, *, -List.reduceReplicate]; try rfl)) | ((first | apply go_move | apply go_assign | apply go_load | apply go_store | apply go_append | apply go_copy | apply go_copy0 | apply go_clear0 | apply go_slice3 | apply go_indexA); · (simp (disch := omega) [go_sem, *, -List.reduceReplicate]; try first | rfl | exact ⟨rfl, rfl⟩ | exact ⟨rfl, rfl, rfl⟩)) | ((first | apply go_loadv | apply go_append0 | apply go_beyond); · (simp (disch := omega) [go_sem, *, -List.reduceReplicate]; try first | rfl | exact ⟨rfl, rfl⟩ | exact ⟨rfl, rfl, rfl⟩)) | (apply go_appself; · (simp (disch := omega) [go_sem, *, -List.reduceReplicate]; try first | rfl | exact ⟨rfl, rfl⟩ | exact ⟨rfl, rfl, rfl⟩)) | ((first | (apply go_appendz; · rfl) | (apply go_new; · rfl) | (apply go_glob; · assumption) | (apply go_pure; · rfl)); · (simp (disch := omega) [go_sem, *, -List.reduceReplicate]; try first | rfl | exact ⟨rfl, rfl⟩ | exact ⟨rfl, rfl, rfl⟩)) | (apply go_read1; (· rfl); · (simp (disch := omega) [go_sem, *, -List.reduceReplicate]; try first | rfl | exact ⟨rfl, rfl⟩ | exact ⟨rfl, rfl, rfl⟩)) | (apply go_rw1; (· rfl); · (simp (disch := omega) [go_sem, *, -List.reduceReplicate]; try first | rfl | exact ⟨rfl, rfl⟩ | exact ⟨rfl, rfl, rfl⟩)) | (apply go_new1; (· rfl); · (simp (disch := omega) [go_sem, *, -List.reduceReplicate]; try first | rfl | exact ⟨rfl, rfl⟩ | exact ⟨rfl, rfl, rfl⟩)) | (apply go_conv; · (simp (disch := omega) [go_sem, *, -List.reduceReplicate]; try first | rfl | exact ⟨rfl, rfl⟩ | exact ⟨rfl, rfl, rfl⟩)) | ((first | (apply go_new; · rfl) | (apply go_pure; · rfl)); · (simp (disch := omega) [go_sem, *, -List.reduceReplicate]; simp [go_sem, *]; try first | rfl | exact ⟨rfl, rfl⟩)))
              refine go_result (by simp (disch := omega) [go_sem, *, -List.reduceReplicate]; rfl) (by simp (disch := omega) [go_sem]; try rfl) (fun id hid => by simp (disch := omega) only [upd_ne, wr_cons, wr_nil]; try exact hlow id hid)
      · have hlt : u + 1 ≤ lead b := by
          rcases Nat.lt_or_ge u (lead b) with h | h
          · omega
          · have e : leadF 7 b = u := by unfold lead at hu h; omega
            obtain ⟨y, h1, h2⟩ := leadF_at 7 b (by omega) (by omega)
            rw [e, List.getElem?_eq_getElem hul, hx] at h1
            cases h1; omega
        repeat (first | apply go_nil | apply go_kreg | apply go_kreg0 | apply go_kreg1 | (apply go_kregT; · (first | (simp [addT, CF, CFy, Ind, DisjF]; done) | (simp only [addT, CF, CFy, Ind]; repeat' (first | exact trivial | apply And.intro | exact Or.inl (by decide +kernel) | (refine Or.inr ⟨?_, ?_⟩ <;> (simp; try omega)))))) | apply go_then | apply go_then_exit | apply go_then_ret | apply go_blk | apply go_blk_ret | apply go_blk_here | (apply go_blk_there; · rfl) | apply go_seq | (apply go_region; · (simp only [List.length_cons, List.length_nil, Nat.reduceAdd, Nat.add_assoc]; rfl)) | apply go_skip | apply go_block | apply go_scope | apply go_label | apply go_exit | apply go_ret | (apply go_mut; (· assumption); · (simp (disch := omega) [go_sem, *, -List.reduceReplicate]; first | exact ⟨rfl, rfl⟩ | (simp [go_sem, *]; exact ⟨rfl, rfl⟩))) | (apply go_mutP; (· assumption); · (simp (disch := omega) [go_sem, *, -List.reduceReplicate]; try first | rfl | exact ⟨rfl, rfl⟩ | exact ⟨rfl, rfl, rfl⟩)) | (apply go_guard_in; (· rfl); · (simp (disch := omega) [go_sem, *, -List.reduceReplicate]; try first | rfl | omega)) | (apply go_guard_off; (· rfl); · (simp (disch := omega) [go_sem, *, -List.reduceReplicate]; try first | rfl | omega)) | (apply go_guard_no; (· rfl); · (simp (disch := omega) [go_sem, *, -List.reduceReplicate]; try rfl)) | ((first | apply go_move | apply go_assign | apply go_load | apply go_store | apply go_append | apply go_copy | apply go_copy0 | apply go_clear0 | apply go_slice3 | apply go_indexA); · (simp (disch := omega) [go_sem, *, -List.reduceReplicate]; try first | rfl | exact ⟨rfl, rfl⟩ | exact ⟨rfl, rfl, rfl⟩)) | ((first | apply go_loadv | apply go_append0 | apply go_beyond); · (simp (disch := omega) [go_sem, *, -List.reduceReplicate]; try first | rfl | exact ⟨rfl, rfl⟩ | exact ⟨rfl, rfl, rfl⟩)) | (apply go_appself; · (simp (disch := omega) [go_sem, *, -List.reduceReplicate]; try first | rfl | exact ⟨rfl, rfl⟩ | exact ⟨rfl, rfl, rfl⟩)) | ((first | (apply go_appendz; · rfl) | (apply go_new; · rfl) | (apply go_glob; · assumption) | (apply go_pure; · rfl)); · (simp (disch := omega) [go_sem, *, -List.reduceReplicate]; try first | rfl | exact ⟨rfl, rfl⟩ | exact ⟨rfl, rfl, rfl⟩)) | (apply go_read1; (· rfl); · (simp (disch := omega) [go_sem, *, -List.reduceReplicate]; try first | rfl | exact ⟨rfl, rfl⟩ | exact ⟨rfl, rfl, rfl⟩)) | (apply go_rw1; (· rfl); · (simp (disch := omega) [go_sem, *, -List.reduceReplicate]; try first | rfl | exact ⟨rfl, rfl⟩ | exact ⟨rfl, rfl, rfl⟩)) | (apply go_new1; (· rfl); · (simp (disch := omega) [go_sem, *, -List.reduceReplicate]; try first | rfl | exact ⟨rfl, rfl⟩ | exact ⟨rfl, rfl, rfl⟩)) | (apply go_conv; · (simp (disch := omega) [go_sem, *, -List.reduceReplicate]; try first | rfl | exact ⟨rfl, rfl⟩ | exact ⟨rfl, rfl, rfl⟩)) | ((first | (apply go_new; · rfl) | (apply go_pure; · rfl)); · (simp (disch := omega) [go_sem, *, -List.reduceReplicate]; simp [go_sem, *]; try first | rfl | exact ⟨rfl, rfl⟩)))
        refine go_condF (by simp (disch := omega) [go_sem, *, -List.reduceReplicate]; try first | rfl | omega) ?_
        repeat (first | apply go_nil | apply go_kreg | apply go_kreg0 | apply go_kreg1 | (apply go_kregT; · (first | (simp [addT, CF, CFy, Ind, DisjF]; done) | (simp only [addT, CF, CFy, Ind]; repeat' (first | exact trivial | apply And.intro | exact Or.inl (by decide +kernel) | (refine Or.inr ⟨?_, ?_⟩ <;> (simp; try omega)))))) | apply go_then | apply go_then_exit | apply go_then_ret | apply go_blk | apply go_blk_ret | apply go_blk_here | (apply go_blk_there; · rfl) | apply go_seq | (apply go_region; · (simp only [List.length_cons, List.length_nil, Nat.reduceAdd, Nat.add_assoc]; rfl)) | apply go_skip | apply go_block | apply go_scope | apply go_label | apply go_exit | apply go_ret | (apply go_mut; (· assumption); · (simp (disch := omega) [go_sem, *, -List.reduceReplicate]; first | exact ⟨rfl, rfl⟩ | (simp [go_sem, *]; exact ⟨rfl, rfl⟩))) | (apply go_mutP; (· assumption); · (simp (disch := omega) [go_sem, *, -List.reduceReplicate]; try first | rfl | exact ⟨rfl, rfl⟩ | exact ⟨rfl, rfl, rfl⟩)) | (apply go_guard_in; (· rfl); · (simp (disch := omega) [go_sem, *, -List.reduceReplicate]; try first | rfl | omega)) | (apply go_guard_off; (· rfl); · (simp (disch := omega) [go_sem, *, -List.reduceReplicate]; try first | rfl | omega)) | (apply go_guard_no; (· rfl); · (simp (disch := omega) [go_sem, *, -List.reduceReplicate]; try rfl)) | ((first | apply go_move | apply go_assign | apply go_load | apply go_store | apply go_append | apply go_copy | apply go_copy0 | apply go_clear0 | apply go_slice3 | apply go_indexA); · (simp (disch := omega) [go_sem, *, -List.reduceReplicate]; try first | rfl | exact ⟨rfl, rfl⟩ | exact ⟨rfl, rfl, rfl⟩)) | ((first | apply go_loadv | apply go_append0 | apply go_beyond); · (simp (disch := omega) [go_sem, *, -List.reduceReplicate]; try first | rfl | exact ⟨rfl, rfl⟩ | exact ⟨rfl, rfl, rfl⟩)) | (apply go_appself; · (simp (disch := omega) [go_sem, *, -List.reduceReplicate]; try first | rfl | exact ⟨rfl, rfl⟩ | exact ⟨rfl, rfl, rfl⟩)) | ((first | (apply go_appendz; · rfl) | (apply go_new; · rfl) | (apply go_glob; · assumption) | (apply go_pure; · rfl)); · (simp (disch := omega) [go_sem, *, -List.reduceReplicate]; try first | rfl | exact ⟨rfl, rfl⟩ | exact ⟨rfl, rfl, rfl⟩)) | (apply go_read1; (· rfl); · (simp (disch := omega) [go_sem, *, -List.reduceReplicate]; try first | rfl | exact ⟨rfl, rfl⟩ | exact ⟨rfl, rfl, rfl⟩)) | (apply go_rw1; (· rfl); · (simp (disch := omega) [go_sem, *, -List.reduceReplicate]; try first | rfl | exact ⟨rfl, rfl⟩ | exact ⟨rfl, rfl, rfl⟩)) | (apply go_new1; (· rfl); · (simp (disch := omega) [go_sem, *, -List.reduceReplicate]; try first | rfl | exact ⟨rfl, rfl⟩ | exact ⟨rfl, rfl, rfl⟩)) | (apply go_conv; · (simp (disch := omega) [go_sem, *, -List.reduceReplicate]; try first | rfl | exact ⟨rfl, rfl⟩ | exact ⟨rfl, rfl, rfl⟩)) | ((first | (apply go_new; · rfl) | (apply go_pure; · rfl)); · (simp (disch := omega) [go_sem, *, -List.reduceReplicate]; simp [go_sem, *]; try first | rfl | exact ⟨rfl, rfl⟩)))
        refine go_condF (by simp (disch := omega) [go_sem, *, -List.reduceReplicate]; try first | rfl | omega) ?_
        repeat (first | apply go_nil | apply go_kreg | apply go_kreg0 | apply go_kreg1 | (apply go_kregT; · (first | (simp [addT, CF, CFy, Ind, DisjF]; done) | (simp only [addT, CF, CFy, Ind]; repeat' (first | exact trivial | apply And.intro | exact Or.inl (by decide +kernel) | (refine Or.inr ⟨?_, ?_⟩ <;> (simp; try omega)))))) | apply go_then | apply go_then_exit | apply go_then_ret | apply go_blk | apply go_blk_ret | apply go_blk_here | (apply go_blk_there; · rfl) | apply go_seq | (apply go_region; · (simp only [List.length_cons, List.length_nil, Nat.reduceAdd, Nat.add_assoc]; rfl)) | apply go_skip | apply go_block | apply go_scope | apply go_label | apply go_exit | apply go_ret | (apply go_mut; (· assumption); · (simp (disch := omega) [go_sem, *, -List.reduceReplicate]; first | exact ⟨rfl, rfl⟩ | (simp [go_sem, *]; exact ⟨rfl, rfl⟩))) | (apply go_mutP; (· assumption); · (simp (disch := omega) [go_sem, *, -List.reduceReplicate]; try first | rfl | exact ⟨rfl, rfl⟩ | exact ⟨rfl, rfl, rfl⟩)) | (apply go_guard_in; (· rfl); · (simp (disch := omega) [go_sem, *, -List.reduceReplicate]; try first | rfl | omega)) | (apply go_guard_off; (· rfl); · (simp (disch := omega) [go_sem, *, -List.reduceReplicate]; try first | rfl | omega)) | (apply go_guard_no; (· rfl); · (simp (disch := omega) [go_sem, *, -List.reduceReplicate]; try rfl)) | ((first | apply go_move | apply go_assign | apply go_load | apply go_store | apply go_append | apply go_copy | apply go_copy0 | apply go_clear0 | apply go_slice3 | apply go_indexA); · (simp (disch := omega) [go_sem, *, -List.reduceReplicate]; try first | rfl | exact ⟨rfl, rfl⟩ | exact ⟨rfl, rfl, rfl⟩)) | ((first | apply go_loadv | apply go_append0 | apply go_beyond); · (simp (disch := omega) [go_sem, *, -List.reduceReplicate]; try first | rfl | exact ⟨rfl, rfl⟩ | exact ⟨rfl, rfl, rfl⟩)) | (apply go_appself; · (simp (disch := omega) [go_sem, *, -List.reduceReplicate]; try first | rfl | exact ⟨rfl, rfl⟩ | exact ⟨rfl, rfl, rfl⟩)) | ((first | (apply go_appendz; · rfl) | (apply go_new; · rfl) | (apply go_glob; · assumption) | (apply go_pure; · rfl)); · (simp (disch := omega) [go_sem, *, -List.reduceReplicate]; try first | rfl | exact ⟨rfl, rfl⟩ | exact ⟨rfl, rfl, rfl⟩)) | (apply go_read1; (· rfl); · (simp (disch := omega) [go_sem, *, -List.reduceReplicate]; try first | rfl | exact ⟨rfl, rfl⟩ | exact ⟨rfl, rfl, rfl⟩)) | (apply go_rw1; (· rfl); · (simp (disch := omega) [go_sem, *, -List.reduceReplicate]; try first | rfl | exact ⟨rfl, rfl⟩ | exact ⟨rfl, rfl, rfl⟩)) | (apply go_new1; (· rfl); · (simp (disch := omega) [go_sem, *, -List.reduceReplicate]; try first | rfl | exact ⟨rfl, rfl⟩ | exact ⟨rfl, rfl, rfl⟩)) | (apply go_conv; · (simp (disch := omega) [go_sem, *, -List.reduceReplicate]; try first | rfl | exact ⟨rfl, rfl⟩ | exact ⟨rfl, rfl, rfl⟩)) | ((first | (apply go_new; · rfl) | (apply go_pure; · rfl)); · (simp (disch := omega) [go_sem, *, -List.reduceReplicate]; simp [go_sem, *]; try first | rfl | exact ⟨rfl, rfl⟩)))
        refine go_condF (by simp (disch := omega) [go_sem, *, -List.reduceReplicate]; try first | rfl | omega) ?_
        repeat (first | apply go_nil | apply go_kreg | apply go_kreg0 | apply go_kreg1 | (apply go_kregT; · (first | (simp [addT, CF, CFy, Ind, DisjF]; done) | (simp only [addT, CF, CFy, Ind]; repeat' (first | exact trivial | apply And.intro | exact Or.inl (by decide +kernel) | (refine Or.inr ⟨?_, ?_⟩ <;> (simp; try omega)))))) | apply go_then | apply go_then_exit | apply go_then_ret | apply go_blk | apply go_blk_ret | apply go_blk_here | (apply go_blk_there; · rfl) | apply go_seq | (apply go_region; · (simp only [List.length_cons, List.length_nil, Nat.reduceAdd, Nat.add_assoc]; rfl)) | apply go_skip | apply go_block | apply go_scope | apply go_label | apply go_exit | apply go_ret | (apply go_mut; (· assumption); · (simp (disch := omega) [go_sem, *, -List.reduceReplicate]; first | exact ⟨rfl, rfl⟩ | (simp [go_sem, *]; exact ⟨rfl, rfl⟩))) | (apply go_mutP; (· assumption); · (simp (disch := omega) [go_sem, *, -List.reduceReplicate]; try first | rfl | exact ⟨rfl, rfl⟩ | exact ⟨rfl, rfl, rfl⟩)) | (apply go_guard_in; (· rfl); · (simp (disch := omega) [go_sem, *, -List.reduceReplicate]; try first | rfl | omega)) | (apply go_guard_off; (· rfl); · (simp (disch := omega) [go_sem, *, -List.reduceReplicate]; try first | rfl | omega)) | (apply go_guard_no; (· rfl); · (simp (disch := omega) [go_sem, *, -List.reduceReplicate]; try rfl)) | ((first | apply go_move | apply go_assign | apply go_load | apply go_store | apply go_append | apply go_copy | apply go_copy0 | apply go_clear0 | apply go_slice3 | apply go_indexA); · (simp (disch := omega) [go_sem, *, -List.reduceReplicate]; try first | rfl | exact ⟨rfl, rfl⟩ | exact ⟨rfl, rfl, rfl⟩)) | ((first | apply go_loadv | apply go_append0 | apply go_beyond); · (simp (disch := omega) [go_sem, *, -List.reduceReplicate]; try first | rfl | exact ⟨rfl, rfl⟩ | exact ⟨rfl, rfl, rfl⟩)) | (apply go_appself; · (simp (disch := omega) [go_sem, *, -List.reduceReplicate]; try first | rfl | exact ⟨rfl, rfl⟩ | exact ⟨rfl, rfl, rfl⟩)) | ((first | (apply go_appendz; · rfl) | (apply go_new; · rfl) | (apply go_glob; · assumption) | (apply go_pure; · rfl)); · (simp (disch := omega) [go_sem, *, -List.reduceReplicate]; try first | rfl | exact ⟨rfl, rfl⟩ | exact ⟨rfl, rfl, rfl⟩)) | (apply go_read1; (· rfl); · (simp (disch := omega) [go_sem, *, -List.reduceReplicate]; try first | rfl | exact ⟨rfl, rfl⟩ | exact ⟨rfl, rfl, rfl⟩)) | (apply go_rw1; (· rfl); · (simp (disch := omega) [go_sem, *, -List.reduceReplicate]; try first | rfl | exact ⟨rfl, rfl⟩ | exact ⟨rfl, rfl, rfl⟩)) | (apply go_new1; (· rfl); · (simp (disch := omega) [go_sem, *, -List.reduceReplicate]; try first | rfl | exact ⟨rfl, rfl⟩ | exact ⟨rfl, rfl, rfl⟩)) | (apply go_conv; · (simp (disch := omega) [go_sem, *, -List.reduceReplicate]; try first | rfl | exact ⟨rfl, rfl⟩ | exact ⟨rfl, rfl, rfl⟩)) | ((first | (apply go_new; · rfl) | (apply go_pure; · rfl)); · (simp (disch := omega) [go_sem, *, -List.reduceReplicate]; simp [go_sem, *]; try first | rfl | exact ⟨rfl, rfl⟩)))
        refine ⟨⟨u + 1, by simp (disch := omega) [go_sem, *, -List.reduceReplicate], by simp (disch := omega) [go_sem, *, -List.reduceReplicate], by simp (disch := omega) [go_sem, *, -List.reduceReplicate], (fun id hid => by simp (disch := omega) only [upd_ne, wr_cons, wr_nil]; try exact hlow id hid), by simp only; omega, hlt⟩, ?_⟩
        simp (disch := omega) [go_sem, *, -List.reduceReplicate]
        omega

theorem leb_pos (n : Nat) : 1 ≤ (leb n).length := by
  by_cases h : n < 128
  · rw [leb_small h]; simp
  · rw [leb_big h]; simp

theorem leb_len1 (n : Nat) : ∀ k, n < 128 ^ (k + 1) → (leb n).length ≤ k + 1 := by
  induction n using Nat.strongRecOn with
  | _ n ih =>
    intro k hk
    by_cases h : n < 128
    · rw [leb_small h]; simp
    · rw [leb_big h]
      cases k with
      | zero => simp at hk; omega
      | succ k =>
        have := ih (n / 128) (by omega) k (by rw [Nat.pow_succ] at hk; omega)
        simp; omega
theorem u8_toNat {n : Nat} (h : n < 256) : (u8 n).toNat = n := by
  unfold u8; rw [UInt8.toNat_ofNat', Nat.mod_eq_of_lt h]
theorem vl_cons (x : UInt8) (r : List UInt8) : ∀ j, vl (x :: r) (j + 1) = x.toNat % 128 + 128 * vl r j
  | 0 => by simp [vl]
  | j + 1 => by
    rw [vl, vl_cons x r j, vl]
    simp only [List.getD_cons_succ, Nat.pow_succ]
    rw [Nat.mul_add, Nat.add_assoc]
    congr 2
    rw [← Nat.mul_assoc, Nat.mul_comm _ 128]
theorem leadF_leb (n : Nat) : ∀ (f : Nat) (t : List UInt8), (leb n).length ≤ f → leadF f (leb n ++ t) = (leb n).length - 1 := by
  induction n using Nat.strongRecOn with
  | _ n ih =>
    intro f t hf
    by_cases h : n < 128
    · rw [leb_small h] at hf ⊢
      cases f with
      | zero => simp at hf
      | succ f => simp [leadF, u8_toNat (show n < 256 by omega)]; omega
    · rw [leb_big h] at hf ⊢
      cases f with
      | zero => simp at hf
      | succ f =>
        have hp := leb_pos (n / 128)
        simp only [List.cons_append, leadF, u8_toNat (show n % 128 + 128 < 256 by omega)]
        rw [if_pos (by omega), ih (n / 128) (by omega) f t (by simp at hf; omega)]
        simp; omega
theorem vl_leb (n : Nat) : ∀ t : List UInt8, vl (leb n ++ t) (leb n).length = n := by
  induction n using Nat.strongRecOn with
  | _ n ih =>
    intro t
    by_cases h : n < 128
    · rw [leb_small h]
      simp only [List.cons_append, List.nil_append, List.length_cons, List.length_nil, vl_cons, u8_toNat (show n < 256 by omega), vl]
      omega
    · rw [leb_big h]
      simp only [List.cons_append, List.length_cons, vl_cons, u8_toNat (show n % 128 + 128 < 256 by omega)]
      rw [ih (n / 128) (by omega) t]
      omega
theorem last_leb (n : Nat) : ∀ t : List UInt8, 0 < (leb n).length - 1 → ((leb n ++ t).getD ((leb n).length - 1) 0).toNat ≠ 0 := by
  induction n using Nat.strongRecOn with
  | _ n ih =>
    intro t hl
    by_cases h : n < 128
    · rw [leb_small h] at hl; simp at hl
    · rw [leb_big h]
      have hp := leb_pos (n / 128)
      have e : (u8 (n % 128 + 128) :: leb (n / 128)).length - 1 = ((leb (n / 128)).length - 1) + 1 := by simp; omega
      rw [e, List.cons_append, List.getD_cons_succ]
      by_cases h2 : n / 128 < 128
      · rw [leb_small h2]
        simp [u8_toNat (show n / 128 < 256 by omega)]
        omega
      · refine ih (n / 128) (by omega) t ?_
        rw [leb_big h2]
        have := leb_pos (n / 128 / 128)
        simp; omega

theorem rdS_leb (n : Nat) (hn : n ≤ 281474976710656) (t : List UInt8) : rdS (leb n ++ t) = (n, (leb n).length, 0) := by
  have hl := leb_len1 n 6 (by omega)
  have hp := leb_pos n
  have h1 : lead (leb n ++ t) = (leb n).length - 1 := leadF_leb n 7 t (by omega)
  have h2 : vl (leb n ++ t) ((leb n).length - 1 + 1) = n := by rw [Nat.sub_add_cancel hp]; exact vl_leb n t
  unfold rdS
  rw [h1, h2, if_neg (by omega), if_neg (by rw [List.length_append]; omega), if_neg (fun h => last_leb n t h.1 h.2), if_neg (by omega), Nat.sub_add_cancel hp]

theorem leb_vl : ∀ (l : Nat) (b : List UInt8), l < b.length → (∀ i, i < l → ∃ x, b[i]? = some x ∧ 128 ≤ x.toNat) → (b.getD l 0).toNat < 128 → (l = 0 ∨ (b.getD l 0).toNat ≠ 0) → leb (vl b (l + 1)) = b.take (l + 1)
  | 0, [], h, _, _, _ => by simp at h
  | 0, x :: r, _, _, h, _ => by
    simp only [List.getD_cons_zero] at h
    have : vl (x :: r) (0 + 1) = x.toNat := by rw [vl_cons]; simp [vl]; omega
    rw [this, leb_small h]
    simp [u8]
  | l + 1, [], h, _, _, _ => by simp at h
  | l + 1, x :: r, hl, hb, h, hz => by
    simp only [List.getD_cons_succ] at h hz
    have hz' : (r.getD l 0).toNat ≠ 0 := hz.resolve_left (by omega)
    obtain ⟨y, hy, hy1⟩ := hb 0 (by omega)
    simp at hy; subst hy
    have ih := leb_vl l r (by simpa using hl) (fun i hi => by simpa using hb (i + 1) (by omega)) h (.inr hz')
    have hpos : 1 ≤ vl r (l + 1) := by
      have : 1 ≤ (r.getD l 0).toNat % 128 * 128 ^ l := Nat.mul_pos (by omega) (Nat.pow_pos (by omega))
      simp only [vl]; omega
    have hx := x.toNat_lt
    rw [vl_cons, leb_big (by omega), show (x.toNat % 128 + 128 * vl r (l + 1)) % 128 + 128 = x.toNat by omega, show (x.toNat % 128 + 128 * vl r (l + 1)) / 128 = vl r (l + 1) by omega, ih]
    simp [u8]

theorem rdS_ok (b : List UInt8) {n u : Nat} (h : rdS b = (n, u, 0)) : n ≤ 281474976710656 ∧ u ≤ b.length ∧ leb n = b.take u := by
  have hle := leadF_le 7 b
  unfold rdS at h
  split at h
  · simp at h
  · rename_i h7
    split at h
    · simp at h
    · rename_i hlen
      split at h
      · simp at h
      · rename_i hz
        split at h
        · simp at h
        · rename_i hm
          simp only [Prod.mk.injEq, and_true] at h
          obtain ⟨rfl, rfl⟩ := h
          unfold lead at *
          obtain ⟨x, hx1, hx2⟩ := leadF_at 7 b (by omega) (by omega)
          have hg : b.getD (leadF 7 b) 0 = x := by simp [List.getD, hx1]
          refine ⟨by omega, by omega, leb_vl _ b (by omega) (fun i hi => leadF_lt 7 b i hi) (by rw [hg]; exact hx2) ?_⟩
          by_cases h0 : leadF 7 b = 0
          · exact .inl h0
          · exact .inr fun e => hz ⟨by omega, e⟩
theorem rdS_bad (b : List UInt8) : (rdS b).2.2 = 0 ∨ ∃ e, rdS b = (0, 0, e) ∧ e ≠ 0 := by
  unfold rdS
  split
  · exact .inr ⟨5, rfl, by omega⟩
  · split
    · exact .inr ⟨3, rfl, by omega⟩
    · split
      · exact .inr ⟨5, rfl, by omega⟩
      · split
        · exact .inr ⟨1, rfl, by omega⟩
        · exact .inl rfl

/-- A slice, cut where it is longer than c. -/

theorem vl_back (b : List UInt8) (i : Nat) (n : Nat) : vl b (i + 1) + n * 128 ^ (i + 1) = vl b i + (128 * n + (b.getD i 0).toNat % 128) * 128 ^ i := by
  simp only [vl, Nat.pow_succ, Nat.add_mul]
  have : n * (128 ^ i * 128) = 128 * n * 128 ^ i := by rw [Nat.mul_comm (128 ^ i), ← Nat.mul_assoc, Nat.mul_comm n]
  omega

theorem lead_lt (b : List UInt8) (i : Nat) (h : i < lead b) : ∃ h : i < b.length, 127 < (b[i].toNat : Int) := by
  obtain ⟨x, hx, hx2⟩ := leadF_lt 7 b i h
  obtain ⟨h1, h2⟩ := List.getElem?_eq_some_iff.1 hx
  exact ⟨h1, by rw [h2]; omega⟩
theorem lead_at (b : List UInt8) (h : lead b < 7) (h2 : lead b < b.length) : (b[lead b].toNat : Int) < 128 := by
  obtain ⟨x, hx, hx2⟩ := leadF_at 7 b h h2
  obtain ⟨h1, h3⟩ := List.getElem?_eq_some_iff.1 hx
  have e : b[lead b].toNat = x.toNat := congrArg UInt8.toNat h3
  omega

def rdTail (b : List UInt8) (L : Nat) : Nat × Nat × Nat :=
  if L = 7 then (0, 0, 5) else if L = b.length then (0, 0, 3) else if 0 < L ∧ (b.getD L 0).toNat = 0 then (0, 0, 5) else
    if 281474976710656 < vl b (L + 1) then (0, 0, 1) else (vl b (L + 1), L + 1, 0)

theorem pow_step (n x i l : Nat) (h : n < 128 ^ (l - i)) (hi : i < l) (hx : x < 128) : 128 * n + x < 128 ^ (l - (i - 1)) ∨ i = 0 := by
  by_cases h0 : i = 0
  · exact .inr h0
  · left
    have e : l - (i - 1) = (l - i) + 1 := by omega
    rw [e, Nat.pow_succ]; omega

set_option maxHeartbeats 800000 in
theorem refRead_spec (b : List UInt8) (hb : b.length ≤ 100000000) (k : Nat) : ACall Tryd.prog 102 [.slice none (b.map byteAV)] k [] (rdAV (rdS b)) [] := by
  have hl7 : lead b ≤ 7 := (leadF_le 7 b).1
  have hll : lead b ≤ b.length := (leadF_le 7 b).2
  have hlt := lead_lt b
  have hat := lead_at b
  have hrd : rdS b = rdTail b (lead b) := rfl
  rw [hrd]
  clear hrd
  generalize lead b = L at *
  refine ACall.of_body mixed Tryd.func102 rfl (by kernel_rfl) Tryd.ntmps102 (by kernel_rfl) rfl (by simp) (by simp) (by simp) fun σ N hp hpn hk hkn hfree => ?_
  refine Wk ?_
  refine go_after (fun c => c.s 5 = .lit (.int .i64 L) ∧ c.s 0 = .slice none (b.map byteAV) ∧ N + 4 ≤ c.n ∧ (∀ id, id < N → c.σ id = σ id)) ?_ ?_
  · refine go_loop (aloop mixed (by kernel_rfl) (fun c => ∃ i : Nat, c.s 5 = .lit (.int .i64 i) ∧ c.s 0 = .slice none (b.map byteAV) ∧ N + 4 ≤ c.n ∧ (∀ id, id < N → c.σ id = σ id) ∧ i ≤ L)
      (fun c => match c.s 5 with | .lit (.int _ m) => L - m.toNat | _ => 0) ⟨0, by simp (disch := omega) [go_sem, *, -List.reduceReplicate], by simp (disch := omega) [go_sem, *, -List.reduceReplicate], by simp, (fun id hid => by simp (disch := omega) only [upd_ne, wr_cons, wr_nil]; try exact hlow id hid), by omega⟩ ?_)
    rintro ⟨s, σ', n'⟩ ⟨i, h5, h0, hn', hlow, hi⟩
    simp only at h5 h0 hn' hlow
    by_cases hiL : i < L
    · obtain ⟨hib, g3⟩ := hlt i hiL
      have g1 : (i : Int) < (b.length : Int) := by omega
      have g2 : (i : Int) < 7 := by omega
      clear hlt hat
      refine Wk ?_
      refine ⟨⟨i + 1, by simp (disch := omega) [go_sem, *, -List.reduceReplicate], by simp (disch := omega) [go_sem, *, -List.reduceReplicate], by simp only; omega, (fun id hid => by simp (disch := omega) only [upd_ne, wr_cons, wr_nil]; try exact hlow id hid), by omega⟩, ?_⟩
      simp (disch := omega) [go_sem, *, -List.reduceReplicate]
      omega
    · have hiL' : i = L := by omega
      subst hiL'
      clear hlt hi hiL
      by_cases c1 : (i : Int) < (b.length : Int)
      · by_cases c2 : (i : Int) < 7
        · have c3 := hat (by omega) (by omega)
          have c4 : ¬ (127 : Int) < (b[i].toNat : Int) := by omega
          clear hat c3
          refine Wk ?_
          exact ⟨by simp (disch := omega) [go_sem, *, -List.reduceReplicate], by simp (disch := omega) [go_sem, *, -List.reduceReplicate], by simp only; omega, (fun id hid => by simp (disch := omega) only [upd_ne, wr_cons, wr_nil]; try exact hlow id hid)⟩
        · clear hat
          refine Wk ?_
          exact ⟨by simp (disch := omega) [go_sem, *, -List.reduceReplicate], by simp (disch := omega) [go_sem, *, -List.reduceReplicate], by simp only; omega, (fun id hid => by simp (disch := omega) only [upd_ne, wr_cons, wr_nil]; try exact hlow id hid)⟩
      · clear hat
        refine Wk ?_
        exact ⟨by simp (disch := omega) [go_sem, *, -List.reduceReplicate], by simp (disch := omega) [go_sem, *, -List.reduceReplicate], by simp only; omega, (fun id hid => by simp (disch := omega) only [upd_ne, wr_cons, wr_nil]; try exact hlow id hid)⟩
  · rintro ⟨s, σ', n'⟩ ⟨h5, h0, hn', hlow⟩
    simp only at h5 h0 hn' hlow
    clear hlt hat
    unfold rdTail rdAV
    by_cases c1 : L = 7
    · rw [if_pos c1]
      subst c1
      exact W0
    · rw [if_neg c1]
      by_cases c2 : L = b.length
      · rw [if_pos c2]
        have d1 : ¬ (L : Int) = 7 := by omega
        have d2 : (L : Int) = (b.length : Int) := by omega
        exact W0
      · rw [if_neg c2]
        have d1 : ¬ (L : Int) = 7 := by omega
        have d2 : ¬ (L : Int) = (b.length : Int) := by omega
        have d3 : L < b.length := by omega
        have hg : (b.getD L 0).toNat = b[L].toNat := by simp [List.getD, d3]
        by_cases c3 : 0 < L ∧ (b.getD L 0).toNat = 0
        · rw [if_pos c3]
          have e1 : (0 : Int) < (L : Int) := by omega
          have e2 : (b[L].toNat : Int) = 0 := by omega
          clear hg c3
          exact W0
        · rw [if_neg c3]
          have key : ((0 : Int) < (L : Int) ∧ ¬ (b[L].toNat : Int) = 0) ∨ ¬ 0 < L := by omega
          have hv := vl_lt b (L + 1)
          have hL6 : L ≤ 6 := by omega
          clear hg c3
          have hlow0 := hlow
          rcases key with ⟨e1, e2⟩ | e1
          all_goals
            refine Wk ?_
            refine go_after (fun c => c.s 5 = .lit (.int .i64 L) ∧ c.s 6 = .lit (.int .i64 (vl b (L + 1))) ∧ (∀ id, id < N → c.σ id = σ id)) ?_ ?_
            · refine go_loop (aloop mixed (by kernel_rfl) (fun c => ∃ (i n : Nat), c.s 7 = .lit (.int .i64 ((i : Int) - 1)) ∧ c.s 5 = .lit (.int .i64 L) ∧ c.s 6 = .lit (.int .i64 n) ∧ c.s 0 = .slice none (b.map byteAV) ∧ (∀ id, id < N → c.σ id = σ id) ∧ N ≤ c.n ∧ i ≤ L + 1 ∧ vl b (L + 1) = vl b i + n * 128 ^ i)
                (fun c => match c.s 7 with | .lit (.int _ m) => (m + 1).toNat | _ => 0) ⟨L + 1, 0, by (simp (disch := omega) [go_sem, *, -List.reduceReplicate]; try omega), by simp (disch := omega) [go_sem, *, -List.reduceReplicate], by simp (disch := omega) [go_sem, *, -List.reduceReplicate], by simp (disch := omega) [go_sem, *, -List.reduceReplicate], (fun id hid => by simp (disch := omega) only [upd_ne, wr_cons, wr_nil]; try exact hlow id hid), by simp only; omega, by omega, by omega⟩ ?_)
              rintro ⟨s2, σ2, n2⟩ ⟨i, n, h7, h5, h6, h0, hlow, hn2, hi, hvl⟩
              simp only at h7 h5 h6 h0 hlow hn2
              by_cases hi0 : i = 0
              · subst hi0
                have f1 : ¬ (0 : Int) ≤ ((0 : Nat) : Int) - 1 := by omega
                have f2 : n = vl b (L + 1) := by rw [hvl]; simp [vl]
                clear hvl
                subst f2
                refine Wk ?_
                exact ⟨by simp (disch := omega) [go_sem, *, -List.reduceReplicate], by simp (disch := omega) [go_sem, *, -List.reduceReplicate], (fun id hid => by simp (disch := omega) only [upd_ne, wr_cons, wr_nil]; try exact hlow id hid)⟩
              · obtain ⟨i, rfl⟩ : ∃ j, i = j + 1 := ⟨i - 1, by omega⟩
                have f0 : ((i + 1 : Nat) : Int) - 1 = (i : Int) := by omega
                rw [f0] at h7
                have f1 : (0 : Int) ≤ (i : Int) := by omega
                have f2 : (i : Int) < (b.length : Int) := by omega
                have f3 : i < b.length := by omega
                rw [vl_back] at hvl
                have hg : (b.getD i 0).toNat = b[i].toNat := by simp [List.getD, f3]
                rw [hg] at hvl
                have hpos : 0 < 128 ^ i := Nat.pow_pos (by omega)
                have hbig : (128 * n + b[i].toNat % 128) * 1 ≤ (128 * n + b[i].toNat % 128) * 128 ^ i := Nat.mul_le_mul_left _ hpos
                have hvl7 : 128 ^ (L + 1) ≤ 128 ^ 7 := Nat.pow_le_pow_right (by omega) (by omega)
                have hsm : 128 * n + b[i].toNat % 128 < 562949953421312 := by omega
                have w1 : IntKind.i64.wrap (b[i].toNat : Int) = (b[i].toNat : Int) := wrap_i64 (by omega) (by have := b[i].toNat_lt; omega)
                have w2 : (b[i].toNat : Int).tmod 128 = ((b[i].toNat % 128 : Nat) : Int) := by rw [Int.tmod_eq_emod_of_nonneg (by omega)]; omega
                have w3 : IntKind.i64.wrap (128 * (n : Int)) = 128 * (n : Int) := wrap_i64 (by omega) (by omega)
                have w4 : IntKind.i64.wrap (128 * (n : Int) + ((b[i].toNat % 128 : Nat) : Int)) = ((128 * n + b[i].toNat % 128 : Nat) : Int) := by rw [wrap_i64 (by omega) (by omega)]; omega
                clear f0 hg hpos hbig hvl7
                have HV : vl b (L + 1) = vl b i + (128 * n + b[i].toNat % 128) * 128 ^ i := hvl
                clear hvl
                generalize hN : 128 * n + b[i].toNat % 128 = n3 at *
                generalize hB : ((b[i].toNat % 128 : Nat) : Int) = q at *
                clear hN hB
                revert HV
                generalize hVV : vl b (L + 1) = VV at *
                intro HV
                refine Wk ?_
                refine ⟨⟨i, n3, by simp (disch := omega) [go_sem, *, -List.reduceReplicate], by simp (disch := omega) [go_sem, *, -List.reduceReplicate], by simp (disch := omega) [go_sem, *, -List.reduceReplicate], by simp (disch := omega) [go_sem, *, -List.reduceReplicate], (fun id hid => by simp (disch := omega) only [upd_ne, wr_cons, wr_nil]; try exact hlow id hid), by simp only; omega, by omega, HV⟩, ?_⟩
                simp (disch := omega) [go_sem, *, -List.reduceReplicate]
                try omega
            · rintro ⟨s2, σ2, n2⟩ ⟨h5, h6, hlow⟩
              simp only at h5 h6 hlow
              have hvl7 : 128 ^ (L + 1) ≤ 128 ^ 7 := Nat.pow_le_pow_right (by omega) (by omega)
              have hv2 : vl b (L + 1) < 562949953421312 := by omega
              clear hv hvl7
              by_cases c4 : 281474976710656 < vl b (L + 1)
              · rw [if_pos c4]
                have c5 : (281474976710656 : Int) < (vl b (L + 1) : Int) := by omega
                clear c4
                exact W0
              · rw [if_neg c4]
                have c5 : ¬ (281474976710656 : Int) < (vl b (L + 1) : Int) := by omega
                clear c4
                exact W0
end Go.Proofs.YtaelnglalpiemaaDoor

/- Shared: fields: Field, field.Append, field.Read, the specified ones. -/
namespace Go.Proofs.YtaelnglalpiemaaDoor
open Go.Ab
attribute [local irreducible] Go.Ab.tyAV Go.Ab.aw Go.Ab.aops Go.Ab.kReg Go.Ab.aThen Go.Ab.aBlk Go.Ab.acond Go.Ab.aguard Go.Ab.astep Go.Ab.AStepX Go.Ab.aRet

def fieldB (x : List UInt8) : List UInt8 := leb x.length ++ x

theorem Field_spec (x : List UInt8) (hx : x.length ≤ 10000000) (k : Nat) : ACall Tryd.prog 73 [.slice none (x.map byteAV)] k [] (.slice (some k) ((fieldB x).map byteAV)) [(k, .row 5 1 ((leb x.length).length + x.length))] := by
  have hl := leb_len x.length 8 (by omega)
  have hc := Number_spec x.length
  have hn9 : x.length < 128 ^ 9 := by omega
  unfold fieldB
  refine ACall.of_body mixed Tryd.func73 rfl (by kernel_rfl) Tryd.ntmps73 (by kernel_rfl) rfl (by simp) (by simp) (by simp) fun σ N hp hpn hk hkn hfree => ?_
  refine Wk ?_
  refine go_callw (hc _ hn9) (by simp (disch := omega) [go_sem, *, -List.reduceReplicate]; try rfl) (by simp (disch := omega) [go_sem, *, -List.reduceReplicate]; repeat' first | exact ALe.nil | exact AV.le_refl _ | exact AV.le_nils | exact AV.le_own _ _ | apply ALe.cons | apply AV.sub_agg) (by simp (disch := omega) [go_sem, *, -List.reduceReplicate]) ?_
  refine Wk ?_
  refine go_result1 (r0 := N+3) (by simp (disch := omega) [go_sem, *, -List.reduceReplicate]; rfl) (by omega) (by simp (disch := omega) [go_sem]; try rfl) (fun id hid => by simp (disch := omega) only [upd_ne, wr_cons, wr_nil]; try exact hlow id hid) (by simp (disch := omega) only [upd_same, upd_ne]; rfl) (by simp (disch := omega) [go_sem])

theorem field_bad (b x : List UInt8) (hx : 1024 < x.length) (k : Nat) : ACall Tryd.prog 70 [.slice none (b.map byteAV), .slice none (x.map byteAV)] k [] (.tup [.nils, .lit (.int .i64 2)]) [] := by
  have hx' : (1024 : Int) < (x.length : Int) := by omega
  refine ACall.of_body mixed Tryd.func70 rfl (by kernel_rfl) Tryd.ntmps70 (by kernel_rfl) rfl (by simp) (by simp) (by simp) fun σ N hp hpn hk hkn hfree => ?_
  exact W0

theorem field_ok (b x : List UInt8) (hb : b.length ≤ 10000000) (hx : x.length ≤ 1024) (k : Nat) : ACall Tryd.prog 70 [.slice none (b.map byteAV), .slice none (x.map byteAV)] k []
    (.tup [.slice (some k) ((b ++ fieldB x).map byteAV), .lit (.int .i64 0)]) [(k, .row 5 1 (b ++ fieldB x).length)] := by
  have hl := leb_len x.length 2 (by omega)
  have hx' : ¬ (1024 : Int) < (x.length : Int) := by omega
  have hc := Append_ok b (by omega) x.length (by omega)
  have hf : (b ++ fieldB x) = b ++ leb x.length ++ x := by simp [fieldB]
  rw [hf, List.length_append, List.length_append]
  refine ACall.of_body mixed Tryd.func70 rfl (by kernel_rfl) Tryd.ntmps70 (by kernel_rfl) rfl (by simp) (by simp) (by simp) fun σ N hp hpn hk hkn hfree => ?_
  have hcs := And.intro hc True.intro
  refine Wk ?_
  refine go_result1 (r0 := N+8) (by simp (disch := omega) [go_sem, *, -List.reduceReplicate]; rfl) (by omega) (by simp (disch := omega) [go_sem]; try rfl) (fun id hid => by simp (disch := omega) only [upd_ne, wr_cons, wr_nil]; try exact hlow id hid) (by simp (disch := omega) only [upd_same, upd_ne]; rfl) (by simp (disch := omega) [go_sem])

theorem Field_spec_f (x : List UInt8) (hx : x.length ≤ 10000000) (k : Nat) : ACall Tryd.prog 73 [.slice none (x.map byteAV)] k [] (.slice none ((fieldB x).map byteAV)) [] := by
  have hl := leb_len x.length 8 (by omega)
  have hc := Number_spec x.length
  have hn9 : x.length < 128 ^ 9 := by omega
  unfold fieldB
  refine ACall.of_body mixed Tryd.func73 rfl (by kernel_rfl) Tryd.ntmps73 (by kernel_rfl) rfl (by simp) (by simp) (by simp) fun σ N hp hpn hk hkn hfree => ?_
  refine Wk ?_
  refine go_callw (hc _ hn9) (by simp (disch := omega) [go_sem, *, -List.reduceReplicate]; try rfl) (by simp (disch := omega) [go_sem, *, -List.reduceReplicate]; repeat' first | exact ALe.nil | exact AV.le_refl _ | exact AV.le_nils | exact AV.le_own _ _ | apply ALe.cons | apply AV.sub_agg) (by simp (disch := omega) [go_sem, *, -List.reduceReplicate]) ?_
  exact WM

theorem field_ok_f (b x : List UInt8) (hb : b.length ≤ 10000000) (hx : x.length ≤ 1024) (k : Nat) : ACall Tryd.prog 70 [.slice none (b.map byteAV), .slice none (x.map byteAV)] k []
    (.tup [.slice none ((b ++ fieldB x).map byteAV), .lit (.int .i64 0)]) [] := by
  have hl := leb_len x.length 2 (by omega)
  have hx' : ¬ (1024 : Int) < (x.length : Int) := by omega
  have hc := Append_ok b (by omega) x.length (by omega)
  have hf : (b ++ fieldB x) = b ++ leb x.length ++ x := by simp [fieldB]
  rw [hf]
  refine ACall.of_body mixed Tryd.func70 rfl (by kernel_rfl) Tryd.ntmps70 (by kernel_rfl) rfl (by simp) (by simp) (by simp) fun σ N hp hpn hk hkn hfree => ?_
  have hcs := And.intro hc True.intro
  exact WL

/-- The field at the beginning of bytes. -/
def rdF (b : List UInt8) : List UInt8 × Nat × Nat :=
  if (rdS b).2.2 ≠ 0 then ([], 0, (rdS b).2.2) else if 1024 < (rdS b).1 then ([], 0, 2) else if b.length - (rdS b).2.1 < (rdS b).1 then ([], 0, 3)
  else ((b.drop (rdS b).2.1).take (rdS b).1, (rdS b).2.1 + (rdS b).1, 0)
def rdFAV (r : List UInt8 × Nat × Nat) : AV := .tup [.slice none (r.1.map byteAV), .lit (.int .i64 r.2.1), .lit (.int .i64 r.2.2)]

theorem rdS_le (b : List UInt8) : (rdS b).2.1 ≤ b.length := by
  rcases rdS_bad b with h | ⟨e, h, _⟩
  · exact (rdS_ok b (n := (rdS b).1) (u := (rdS b).2.1) (by rw [← h])).2.1
  · rw [h]; simp

theorem take_drop_bytes (b : List UInt8) (u n : Nat) : ((b.map byteAV).take (u + n)).drop u = ((b.drop u).take n).map byteAV := by
  rw [List.map_take, List.map_drop, List.drop_take]
  congr 1
  omega

theorem fieldRead_spec (b : List UInt8) (hb : b.length ≤ 10000000) (k : Nat) : ACall Tryd.prog 101 [.slice none (b.map byteAV)] k [] (rdFAV (rdF b)) [] := by
  have c1 := Read_spec b (by omega)
  have hu := rdS_le b
  unfold rdF rdFAV
  generalize rdS b = r at *
  obtain ⟨n, u, e⟩ := r
  simp only [rdAV] at c1 hu ⊢
  by_cases h1 : e ≠ 0
  · rw [if_pos h1]
    have g1 : ¬ (e : Int) = 0 := by omega
    clear h1
    refine ACall.of_body mixed Tryd.func101 rfl (by kernel_rfl) Tryd.ntmps101 (by kernel_rfl) rfl (by simp) (by simp) (by simp) fun σ N hp hpn hk hkn hfree => ?_
    have hcs := And.intro c1 True.intro
    exact WL
  · rw [if_neg h1]
    have e0 : e = 0 := by omega
    subst e0
    clear h1
    by_cases h2 : 1024 < n
    · rw [if_pos h2]
      have g1 : (1024 : Int) < (n : Int) := by omega
      clear h2
      refine ACall.of_body mixed Tryd.func101 rfl (by kernel_rfl) Tryd.ntmps101 (by kernel_rfl) rfl (by simp) (by simp) (by simp) fun σ N hp hpn hk hkn hfree => ?_
      have hcs := And.intro c1 True.intro
      exact WL
    · rw [if_neg h2]
      have g1 : ¬ (1024 : Int) < (n : Int) := by omega
      by_cases h3 : b.length - u < n
      · rw [if_pos h3]
        have g2 : (b.length : Int) - (u : Int) < (n : Int) := by omega
        clear h3 h2
        refine ACall.of_body mixed Tryd.func101 rfl (by kernel_rfl) Tryd.ntmps101 (by kernel_rfl) rfl (by simp) (by simp) (by simp) fun σ N hp hpn hk hkn hfree => ?_
        have hcs := And.intro c1 True.intro
        exact WL
      · rw [if_neg h3]
        have g2 : ¬ (b.length : Int) - (u : Int) < (n : Int) := by omega
        have g3 : ((u : Int) + (n : Int)).toNat = u + n := by omega
        have g4 : u + n ≤ b.length := by omega
        have htd := take_drop_bytes b u n
        have c2 := SClone_spec ((b.drop u).take n) (by rw [List.length_take]; omega)
        have hl : ((b.drop u).take n).length = n := by rw [List.length_take, List.length_drop]; omega
        generalize (b.drop u).take n = y at *
        clear h3 h2
        refine ACall.of_body mixed Tryd.func101 rfl (by kernel_rfl) Tryd.ntmps101 (by kernel_rfl) rfl (by simp) (by simp) (by simp) fun σ N hp hpn hk hkn hfree => ?_
        have hcs := And.intro c1 (And.intro c2 True.intro)
        exact WL

theorem refReadField_spec (b : List UInt8) (hb : b.length ≤ 10000000) (k : Nat) : ACall Tryd.prog 104 [.slice none (b.map byteAV)] k [] (rdFAV (rdF b)) [] := by
  have c1 := refRead_spec b (by omega)
  have hu := rdS_le b
  unfold rdF rdFAV
  generalize rdS b = r at *
  obtain ⟨n, u, e⟩ := r
  simp only [rdAV] at c1 hu ⊢
  by_cases h1 : e ≠ 0
  · rw [if_pos h1]
    have g1 : ¬ (e : Int) = 0 := by omega
    clear h1
    refine ACall.of_body mixed Tryd.func104 rfl (by kernel_rfl) Tryd.ntmps104 (by kernel_rfl) rfl (by simp) (by simp) (by simp) fun σ N hp hpn hk hkn hfree => ?_
    have hcs := And.intro c1 True.intro
    exact WL
  · rw [if_neg h1]
    have e0 : e = 0 := by omega
    subst e0
    clear h1
    by_cases h2 : 1024 < n
    · rw [if_pos h2]
      have g1 : (1024 : Int) < (n : Int) := by omega
      clear h2
      refine ACall.of_body mixed Tryd.func104 rfl (by kernel_rfl) Tryd.ntmps104 (by kernel_rfl) rfl (by simp) (by simp) (by simp) fun σ N hp hpn hk hkn hfree => ?_
      have hcs := And.intro c1 True.intro
      exact WL
    · rw [if_neg h2]
      have g1 : ¬ (1024 : Int) < (n : Int) := by omega
      by_cases h3 : b.length - u < n
      · rw [if_pos h3]
        have g2 : (b.length : Int) - (u : Int) < (n : Int) := by omega
        clear h3 h2
        refine ACall.of_body mixed Tryd.func104 rfl (by kernel_rfl) Tryd.ntmps104 (by kernel_rfl) rfl (by simp) (by simp) (by simp) fun σ N hp hpn hk hkn hfree => ?_
        have hcs := And.intro c1 True.intro
        exact WL
      · rw [if_neg h3]
        have g2 : ¬ (b.length : Int) - (u : Int) < (n : Int) := by omega
        have g3 : ((u : Int) + (n : Int)).toNat = u + n := by omega
        have g4 : u + n ≤ b.length := by omega
        have htd := take_drop_bytes b u n
        have hl : ((b.drop u).take n).length = n := by rw [List.length_take, List.length_drop]; omega
        generalize (b.drop u).take n = y at *
        clear h3 h2
        refine ACall.of_body mixed Tryd.func104 rfl (by kernel_rfl) Tryd.ntmps104 (by kernel_rfl) rfl (by simp) (by simp) (by simp) fun σ N hp hpn hk hkn hfree => ?_
        have hcs := And.intro c1 True.intro
        exact WL
end Go.Proofs.YtaelnglalpiemaaDoor

/- Predicates: numbers, eight bytes. -/
namespace Go.Proofs.YtaelnglalpiemaaDoor
open Go.Ab
attribute [local irreducible] Go.Ab.tyAV Go.Ab.aw Go.Ab.aops Go.Ab.kReg Go.Ab.aThen Go.Ab.aBlk Go.Ab.acond Go.Ab.aguard Go.Ab.astep Go.Ab.AStepX Go.Ab.aRet

def sh8 (m : Int) (s : Nat) : UInt8 := UInt8.ofNat ((m / (2 : Int) ^ s) % 256).toNat
theorem sh8_toNat (m : Int) (s : Nat) : ((sh8 m s).toNat : Int) = (m / (2 : Int) ^ s) % 256 := by
  unfold sh8
  rw [UInt8.toNat_ofNat']
  omega
theorem sh8_wrap (m : Int) (s : Nat) : IntKind.u8.wrap (m.fdiv ((2 : Int) ^ s)) = ((sh8 m s).toNat : Int) := by
  have hp : (0 : Int) ≤ 2 ^ s := Int.le_of_lt (Int.pow_pos (by decide))
  rw [sh8_toNat, IntKind.wrap_u8, Int.fdiv_eq_ediv, if_pos (.inl hp), Int.sub_zero]
def eightB (m : Int) : List UInt8 := [sh8 m 56, sh8 m 48, sh8 m 40, sh8 m 32, sh8 m 24, sh8 m 16, sh8 m 8, sh8 m 0]
theorem eightB_len (m : Int) : (eightB m).length = 8 := rfl

attribute [go_sem] ren_byteAV
abbrev natsAV (ns : List Nat) : AV := .slice none (ns.map fun (n : Nat) => AV.lit (.int .i64 (n : Int)))
theorem numbers_spec (ns : List Nat) (bs : List UInt8) (h0 : 0 < ns.length) (hb : bs.length + 8 * ns.length ≤ 1000000) (hn : ∀ n ∈ ns, n ≤ 281474976710656) (R : List UInt8) (hR : bs ++ ns.flatMap leb = R) (k : Nat) :
    ACall Tryd.prog 96 [.slice none (bs.map byteAV), natsAV ns] k [] (.slice (some k) (R.map byteAV)) [(k, .row 5 1 R.length)] := by
  refine ACall.of_body mixed Tryd.func96 rfl (by kernel_rfl) Tryd.ntmps96 (by kernel_rfl) rfl (by simp) (by simp) (by simp) fun σ N hp hpn hk hkn hfree => ?_
  refine Wk ?_
  refine go_loopP (ns.length) (N) mixed (by kernel_rfl) [0, 6, 9, 10, 11, 12, 13, 14, 15, 16, 17, 18, 19] [] (fun s_ σ_ n_ => s_ 9 = .lit (.int .i64 0) ∧ s_ 0 = .slice none (bs.map byteAV) ∧ True) (fun m_ s_ σ_ n_ => ∃ (u : Nat) (q : Nat) (acc : List UInt8), m_ = ns.length - u ∧ s_ 9 = .lit (.int .i64 u) ∧ s_ 0 = .slice (some q) (acc.map byteAV) ∧ σ_ (q) = .row 5 1 acc.length ∧ (u ≤ ns.length) ∧ (acc.length ≤ bs.length + 8 * u) ∧ (acc = bs ++ (ns.take u).flatMap leb) ∧ (N ≤ q) ∧ (q < n_)) ⟨WF, WF, trivial⟩ ?_ ?_
  · intro s_1 σ_1 n_1 hs_1 hf_1 hn_1 hI_1
    obtain ⟨h1_9, h1_0, -⟩ := hI_1
    have h1_4 := (hs_1.at 4 (by decide)).trans WE
    have h1_7 := (hs_1.at 7 (by decide)).trans WE
    have h1_8 := (hs_1.at 8 (by decide)).trans WE
    have hlow : ∀ id, id < N → σ_1 id = σ id := fun id hid => (hf_1.at id (by omega) WQ).trans WH
    obtain ⟨c, hc⟩ : ∃ c, ns[0] = c := ⟨_, rfl⟩
    have hcn : c ≤ 281474976710656 := hn c (by rw [← hc]; exact List.getElem_mem h0)
    have hcl := leb_len c 7 (by omega)
    have c1 := Append_ok bs (by omega) c hcn
    have hacc2 : bs ++ leb c = bs ++ (ns.take (0 + 1)).flatMap leb := by
      rw [List.take_add_one, List.getElem?_eq_getElem h0, hc]
      simp
    have hal2 : (bs ++ leb c).length ≤ bs.length + 8 * (0 + 1) := by rw [List.length_append]; omega
    have hll : bs.length + (leb c).length = (bs ++ leb c).length := by simp
    rw [hll] at c1
    generalize bs ++ leb c = acc2 at *
    have hcs := And.intro c1 True.intro
    clear c1 hll hR
    refine Wk ?_
    exact ⟨WS, WG, WN, _, (show ns.length - (1) < (ns.length) by omega), 1, _, acc2, rfl, WF, WF, WF, WC, WC, WC, WC, WC⟩
  intro m_1 s_1 σ_1 n_1 hs_1 hf_1 hn_1 hI_1
  obtain ⟨u, q, acc, hm_1, h1_9, h1_0, e1_0, hu, hal, hacc, hq, hqn⟩ := hI_1
  have h1_4 := (hs_1.at 4 (by decide)).trans WE
  have h1_7 := (hs_1.at 7 (by decide)).trans WE
  have h1_8 := (hs_1.at 8 (by decide)).trans WE
  have hlow : ∀ id, id < N → σ_1 id = σ id := fun id hid => (hf_1.at id (by omega) WQ).trans WH
  by_cases hul : u = ns.length
  · rw [hul, List.take_length, hR] at hacc
    subst hul hacc
    clear hR
    refine Wk ?_
    refine go_result1 (r0 := q) (by simp (disch := omega) [go_sem, *, -List.reduceReplicate]; rfl) (by omega) (by simp (disch := omega) [go_sem]; try rfl) (fun id hid => by simp (disch := omega) only [upd_ne, wr_cons, wr_nil]; try exact hlow id hid) (by simp (disch := omega) [go_sem, *, -List.reduceReplicate]; rfl) (by simp (disch := omega) [go_sem])
  · have hui : u < ns.length := by omega
    obtain ⟨c, hc⟩ : ∃ c, ns[u] = c := ⟨_, rfl⟩
    have hcn : c ≤ 281474976710656 := hn c (by rw [← hc]; exact List.getElem_mem hui)
    have hcl := leb_len c 7 (by omega)
    have c1 := Append_ok acc (by omega) c hcn
    have hacc2 : acc ++ leb c = bs ++ (ns.take (u + 1)).flatMap leb := by
      rw [List.take_add_one, List.getElem?_eq_getElem hui, hc, hacc]
      simp
    have hal2 : (acc ++ leb c).length ≤ bs.length + 8 * (u + 1) := by rw [List.length_append]; omega
    have hll : acc.length + (leb c).length = (acc ++ leb c).length := by simp
    rw [hll] at c1
    clear hacc hll hR
    generalize acc ++ leb c = acc2 at *
    have hcs := And.intro c1 True.intro
    clear c1
    refine Wk ?_
    exact ⟨WS, WG, WN, _, (show ns.length - (u + 1) < m_1 by omega), u + 1, _, acc2, rfl, WF, WF, WF, WC, WC, WC, WC, WC⟩
theorem Eight_spec (m : Int) (m0 : 0 ≤ m) (m1 : m < 18446744073709551616) (k : Nat) :
    ACall Tryd.prog 92 [.lit (.int .u64 m)] k [] (.slice none ((eightB m).map byteAV)) [] := by
  have e7 := sh8_wrap m 56
  have e6 := sh8_wrap m 48
  have e5 := sh8_wrap m 40
  have e4 := sh8_wrap m 32
  have e3 := sh8_wrap m 24
  have e2 := sh8_wrap m 16
  have e1 := sh8_wrap m 8
  have e0 := sh8_wrap m 0
  simp only [Int.reducePow, Int.pow_zero, Int.fdiv_one] at e7 e6 e5 e4 e3 e2 e1 e0
  unfold eightB
  generalize sh8 m 56 = b7 at *
  generalize sh8 m 48 = b6 at *
  generalize sh8 m 40 = b5 at *
  generalize sh8 m 32 = b4 at *
  generalize sh8 m 24 = b3 at *
  generalize sh8 m 16 = b2 at *
  generalize sh8 m 8 = b1 at *
  generalize sh8 m 0 = b0 at *
  refine ACall.of_body mixed Tryd.func92 rfl (by kernel_rfl) Tryd.ntmps92 (by kernel_rfl) rfl (by simp) (by simp) (by simp) fun σ N hp hpn hk hkn hfree => ?_
  refine Wk ?_
  refine ALoop.nilrow 3 5 1 (by simp (disch := omega) [go_sem, *, -List.reduceReplicate]) ?_
  refine go_loopB (N) mixed (by kernel_rfl) [3, 4, 5, 6, 7, 8, 9, 10, 11, 12, 13, 14, 15, 16] [] (fun m_ s_ σ_ n_ => ∃ (u : Nat) (q : Nat) (acc : List UInt8), m_ = 8 - u ∧ s_ 4 = .lit (.int .i64 (56 - 8 * (u : Int))) ∧ s_ 3 = .slice (some q) (acc.map byteAV) ∧ σ_ (q) = .row 5 1 acc.length ∧ (u ≤ 8) ∧ (N ≤ q) ∧ (q < n_) ∧ (acc = [b7, b6, b5, b4, b3, b2, b1, b0].take u)) ⟨_, 0, _, [], rfl, WF, WF, WF, WC, WC, WC, WC⟩ ?_
  intro m_2 s_2 σ_2 n_2 hs_2 hf_2 hn_2 hI_2
  obtain ⟨u, q, acc, hm_2, h2_4, h2_3, e2_0, hu, hq, hqn, hacc⟩ := hI_2
  have h2_0 := (hs_2.at 0 (by decide)).trans WE
  have h2_2 := (hs_2.at 2 (by decide)).trans WE
  have hlow : ∀ id, id < N → σ_2 id = σ id := fun id hid => (hf_2.at id (by omega) WQ).trans WH
  have hb7 : byteAV b7 = .lit (.int .u8 b7.toNat) := rfl
  have hb6 : byteAV b6 = .lit (.int .u8 b6.toNat) := rfl
  have hb5 : byteAV b5 = .lit (.int .u8 b5.toNat) := rfl
  have hb4 : byteAV b4 = .lit (.int .u8 b4.toNat) := rfl
  have hb3 : byteAV b3 = .lit (.int .u8 b3.toNat) := rfl
  have hb2 : byteAV b2 = .lit (.int .u8 b2.toNat) := rfl
  have hb1 : byteAV b1 = .lit (.int .u8 b1.toNat) := rfl
  have hb0 : byteAV b0 = .lit (.int .u8 b0.toNat) := rfl
  have hcase : u = 0 ∨ u = 1 ∨ u = 2 ∨ u = 3 ∨ u = 4 ∨ u = 5 ∨ u = 6 ∨ u = 7 ∨ u = 8 := by omega
  rcases hcase with rfl | hcase
  · simp only [List.take_succ_cons, List.take_zero] at hacc
    subst hacc
    refine Wk ?_
    exact ⟨WS, WG, WN, _, (show 8 - (1) < m_2 by omega), 1, q, [b7], rfl, WF, WF, WF, WC, WC, WC, WC⟩
  rcases hcase with rfl | hcase
  · simp only [List.take_succ_cons, List.take_zero] at hacc
    subst hacc
    refine Wk ?_
    exact ⟨WS, WG, WN, _, (show 8 - (2) < m_2 by omega), 2, q, [b7, b6], rfl, WF, WF, WF, WC, WC, WC, WC⟩
  rcases hcase with rfl | hcase
  · simp only [List.take_succ_cons, List.take_zero] at hacc
    subst hacc
    refine Wk ?_
    exact ⟨WS, WG, WN, _, (show 8 - (3) < m_2 by omega), 3, q, [b7, b6, b5], rfl, WF, WF, WF, WC, WC, WC, WC⟩
  rcases hcase with rfl | hcase
  · simp only [List.take_succ_cons, List.take_zero] at hacc
    subst hacc
    refine Wk ?_
    exact ⟨WS, WG, WN, _, (show 8 - (4) < m_2 by omega), 4, q, [b7, b6, b5, b4], rfl, WF, WF, WF, WC, WC, WC, WC⟩
  rcases hcase with rfl | hcase
  · simp only [List.take_succ_cons, List.take_zero] at hacc
    subst hacc
    refine Wk ?_
    exact ⟨WS, WG, WN, _, (show 8 - (5) < m_2 by omega), 5, q, [b7, b6, b5, b4, b3], rfl, WF, WF, WF, WC, WC, WC, WC⟩
  rcases hcase with rfl | hcase
  · simp only [List.take_succ_cons, List.take_zero] at hacc
    subst hacc
    refine Wk ?_
    exact ⟨WS, WG, WN, _, (show 8 - (6) < m_2 by omega), 6, q, [b7, b6, b5, b4, b3, b2], rfl, WF, WF, WF, WC, WC, WC, WC⟩
  rcases hcase with rfl | hcase
  · simp only [List.take_succ_cons, List.take_zero] at hacc
    subst hacc
    refine Wk ?_
    exact ⟨WS, WG, WN, _, (show 8 - (7) < m_2 by omega), 7, q, [b7, b6, b5, b4, b3, b2, b1], rfl, WF, WF, WF, WC, WC, WC, WC⟩
  rcases hcase with rfl | hcase
  · simp only [List.take_succ_cons, List.take_zero] at hacc
    subst hacc
    refine Wk ?_
    exact ⟨WS, WG, WN, _, (show 8 - (8) < m_2 by omega), 8, q, [b7, b6, b5, b4, b3, b2, b1, b0], rfl, WF, WF, WF, WC, WC, WC, WC⟩
  subst hcase
  simp only [List.take_succ_cons, List.take_zero] at hacc
  subst hacc
  exact WM
end Go.Proofs.YtaelnglalpiemaaDoor

/- Predicates: Encode. -/
namespace Go.Proofs.YtaelnglalpiemaaDoor
open Go.Ab
attribute [local irreducible] Go.Ab.tyAV Go.Ab.aw Go.Ab.aops Go.Ab.kReg Go.Ab.aThen Go.Ab.aBlk Go.Ab.acond Go.Ab.aguard Go.Ab.astep Go.Ab.AStepX Go.Ab.aRet

def encP (p : Pr) : List UInt8 :=
  leb p.kind.toNat ++ (if p.kind = 4 ∨ p.kind = 5 then leb p.frm.toNat ++ leb p.to.toNat else if p.kind = 6 then fieldB p.name else if p.kind = 7 then leb p.num.toNat else eightB p.mask)
theorem maskB_pos {m : Int} {n : Nat} (h : maskB m n = true) : m ≠ 0 ∧ m < 2 ^ n := by
  unfold maskB at h
  simpa using h
/-- The valid predicates. -/
inductive PV : Pr → Prop where
  | mask (kn : Nat) (m : Int) (hk : kn = 1 ∧ m < 18446744073709551616 ∨ kn = 2 ∧ m < 4294967296 ∨ kn = 3 ∧ m < 128) (hm : m ≠ 0) : PV ⟨kn, m, 0, 0, [], 0⟩
  | span (kn f t : Nat) (hk : kn = 4 ∧ f ≤ t ∧ t ≤ 67108864 ∨ kn = 5 ∧ f < 1440 ∧ t < 1440) : PV ⟨kn, 0, f, t, [], 0⟩
  | holder (n : List UInt8) (hn : nameB n = true) : PV ⟨6, 0, 0, 0, n, 0⟩
  | rides (x : Nat) (hx : x ≤ 1000000) : PV ⟨7, 0, 0, 0, [], x⟩
theorem PV.of {p : Pr} (h : predB p = true) : PV p := by
  obtain ⟨kd, m, f, t, n, x⟩ := p
  unfold predB at h
  simp only at h
  split at h
  · rename_i e; subst e
    simp only [Bool.and_eq_true, decide_eq_true_eq, Pr.mk.injEq] at h
    obtain ⟨h1, h2, h3, h4, h5, h6, h7⟩ := h
    subst h4 h5 h6 h7
    exact .mask 1 m (.inl ⟨rfl, (maskB_pos h1).2⟩) (maskB_pos h1).1
  split at h
  · rename_i e; subst e
    simp only [Bool.and_eq_true, decide_eq_true_eq, Pr.mk.injEq] at h
    obtain ⟨h1, h2, h3, h4, h5, h6, h7⟩ := h
    subst h4 h5 h6 h7
    exact .mask 2 m (.inr (.inl ⟨rfl, (maskB_pos h1).2⟩)) (maskB_pos h1).1
  split at h
  · rename_i e; subst e
    simp only [Bool.and_eq_true, decide_eq_true_eq, Pr.mk.injEq] at h
    obtain ⟨h1, h2, h3, h4, h5, h6, h7⟩ := h
    subst h4 h5 h6 h7
    exact .mask 3 m (.inr (.inr ⟨rfl, (maskB_pos h1).2⟩)) (maskB_pos h1).1
  split at h
  · rename_i e; subst e
    simp only [Bool.and_eq_true, decide_eq_true_eq, Pr.mk.injEq] at h
    obtain ⟨h1, h2, h3, h4, h5, h6, h7, h8, h9⟩ := h
    subst h5 h8 h9
    obtain ⟨f', rfl⟩ := Int.eq_ofNat_of_zero_le h1
    obtain ⟨t', rfl⟩ := Int.eq_ofNat_of_zero_le (Int.le_trans h1 h2)
    exact .span 4 f' t' (.inl ⟨rfl, by omega, by omega⟩)
  split at h
  · rename_i e; subst e
    simp only [Bool.and_eq_true, decide_eq_true_eq, Pr.mk.injEq] at h
    obtain ⟨h1, h2, h3, h4, h5, h6, h7, h8, h9, h10⟩ := h
    subst h6 h9 h10
    obtain ⟨f', rfl⟩ := Int.eq_ofNat_of_zero_le h1
    obtain ⟨t', rfl⟩ := Int.eq_ofNat_of_zero_le h3
    exact .span 5 f' t' (.inr ⟨rfl, by omega, by omega⟩)
  split at h
  · rename_i e; subst e
    simp only [Bool.and_eq_true, decide_eq_true_eq, Pr.mk.injEq] at h
    obtain ⟨h1, h2, h3, h4, h5, h6, h7⟩ := h
    subst h3 h4 h5 h7
    exact .holder n h1
  split at h
  · rename_i e; subst e
    simp only [Bool.and_eq_true, decide_eq_true_eq, Pr.mk.injEq] at h
    obtain ⟨h1, h2, h3, h4, h5, h6, h7, h8⟩ := h
    subst h4 h5 h6 h7
    obtain ⟨x', rfl⟩ := Int.eq_ofNat_of_zero_le h1
    exact .rides x' (by omega)
  · cases h

theorem Enc_bad (p : Pr) (hp0 : PrOk p) (h : predB p = false) (d k : Nat) :
    ACall Tryd.prog 68 [prAV p] k [(d, bitsG)] (.tup [.nils, .lit (.int .i64 5)]) [] := by
  have c1 := predValid_spec p hp0 d
  rw [h] at c1
  refine ACall.of_body mixed Tryd.func68 rfl (by kernel_rfl) Tryd.ntmps68 (by kernel_rfl) rfl (by simp) (by simp) (by simp) fun σ N hp hpn hk hkn hfree => ?_
  have hd := hp _ (List.mem_singleton.2 rfl); have hdn := hpn _ (List.mem_singleton.2 rfl); simp only at hd hdn; clear hp hpn
  have hcs := And.intro c1 True.intro
  clear c1
  exact W0
theorem refEnc_bad (p : Pr) (hp0 : PrOk p) (h : predB p = false) (k : Nat) :
    ACall Tryd.prog 71 [prAV p] k [] (.tup [.nils, .lit (.int .i64 5)]) [] := by
  have c1 := refPred_spec p hp0
  rw [h] at c1
  refine ACall.of_body mixed Tryd.func71 rfl (by kernel_rfl) Tryd.ntmps71 (by kernel_rfl) rfl (by simp) (by simp) (by simp) fun σ N hp hpn hk hkn hfree => ?_
  have hcs := And.intro c1 True.intro
  clear c1
  exact W0
set_option maxHeartbeats 4000000 in
theorem Enc_mask (kn : Nat) (m : Int) (hk : kn = 1 ∨ kn = 2 ∨ kn = 3) (hp0 : PrOk ⟨kn, m, 0, 0, [], 0⟩) (h : predB ⟨kn, m, 0, 0, [], 0⟩ = true) (d k : Nat) :
    ACall Tryd.prog 68 [prAV ⟨kn, m, 0, 0, [], 0⟩] k [(d, bitsG)] (.tup [.slice none ((leb kn ++ eightB m).map byteAV), .lit (.int .i64 0)]) [] := by
  have c1 := predValid_spec _ hp0 d
  rw [h] at c1
  have m0 := hp0.m0
  have m1 := hp0.m1
  simp only at m0 m1
  have c2 := numbers_spec [kn] [] (by simp) (by simp) (by simp; omega) (leb kn) (by simp)
  simp only [List.map_nil, List.map_cons] at c2
  have hl := leb_len kn 7 (by omega)
  generalize leb kn = L at *
  have g4 : ((kn : Int) == 4) = false := by rw [beq_eq_false_iff_ne]; omega
  have g5 : ((kn : Int) == 5) = false := by rw [beq_eq_false_iff_ne]; omega
  have g6 : ((kn : Int) == 6) = false := by rw [beq_eq_false_iff_ne]; omega
  have g7 : ((kn : Int) == 7) = false := by rw [beq_eq_false_iff_ne]; omega
  have e7 := sh8_wrap m 56
  have e6 := sh8_wrap m 48
  have e5 := sh8_wrap m 40
  have e4 := sh8_wrap m 32
  have e3 := sh8_wrap m 24
  have e2 := sh8_wrap m 16
  have e1 := sh8_wrap m 8
  have e0 := sh8_wrap m 0
  simp only [Int.reducePow, Int.pow_zero, Int.fdiv_one] at e7 e6 e5 e4 e3 e2 e1 e0
  unfold eightB
  generalize sh8 m 56 = b7 at *
  generalize sh8 m 48 = b6 at *
  generalize sh8 m 40 = b5 at *
  generalize sh8 m 32 = b4 at *
  generalize sh8 m 24 = b3 at *
  generalize sh8 m 16 = b2 at *
  generalize sh8 m 8 = b1 at *
  generalize sh8 m 0 = b0 at *
  clear hk
  simp only [prAV] at *
  refine ACall.of_body mixed Tryd.func68 rfl (by kernel_rfl) Tryd.ntmps68 (by kernel_rfl) rfl (by simp) (by simp) (by simp) fun σ N hp hpn hk hkn hfree => ?_
  have hd := hp _ (List.mem_singleton.2 rfl); have hdn := hpn _ (List.mem_singleton.2 rfl); simp only at hd hdn; clear hp hpn
  have hcs := And.intro c1 (And.intro c2 True.intro)
  clear c1 c2
  refine Wk ?_
  refine go_loopB (N + 1) mixed (by kernel_rfl) [4, 5, 41, 42, 43, 44, 45, 46, 47, 48, 49, 50, 51, 52] [] (fun m_ s_ σ_ n_ => ∃ (u : Nat) (q : Nat) (acc : List UInt8), m_ = 8 - u ∧ s_ 5 = .lit (.int .i64 (56 - 8 * (u : Int))) ∧ s_ 4 = .slice (some q) ((L ++ acc).map byteAV) ∧ σ_ (q) = .row 5 1 (L.length + acc.length) ∧ (u ≤ 8) ∧ (N + 1 ≤ q) ∧ (q < n_) ∧ (acc = [b7, b6, b5, b4, b3, b2, b1, b0].take u)) ⟨_, 0, _, [], rfl, WF, WF, WF, WC, WC, WC, WC⟩ ?_
  intro m_1 s_1 σ_1 n_1 hs_1 hf_1 hn_1 hI_1
  obtain ⟨u, q, acc, hm_1, h1_5, h1_4, e1_0, hu, hq, hqn, hacc⟩ := hI_1
  have h1_1 := (hs_1.at 1 (by decide)).trans WE
  have h1_2 := (hs_1.at 2 (by decide)).trans WE
  have h1_3 := (hs_1.at 3 (by decide)).trans WE
  have k1_0 := (hf_1.at (N) (by omega) WQ).trans WE
  have hlow : ∀ id, id < N → σ_1 id = σ id := fun id hid => (hf_1.at id (by omega) WQ).trans WH
  have hb7 : byteAV b7 = .lit (.int .u8 b7.toNat) := rfl
  have hb6 : byteAV b6 = .lit (.int .u8 b6.toNat) := rfl
  have hb5 : byteAV b5 = .lit (.int .u8 b5.toNat) := rfl
  have hb4 : byteAV b4 = .lit (.int .u8 b4.toNat) := rfl
  have hb3 : byteAV b3 = .lit (.int .u8 b3.toNat) := rfl
  have hb2 : byteAV b2 = .lit (.int .u8 b2.toNat) := rfl
  have hb1 : byteAV b1 = .lit (.int .u8 b1.toNat) := rfl
  have hb0 : byteAV b0 = .lit (.int .u8 b0.toNat) := rfl
  have hcase : u = 0 ∨ u = 1 ∨ u = 2 ∨ u = 3 ∨ u = 4 ∨ u = 5 ∨ u = 6 ∨ u = 7 ∨ u = 8 := by omega
  rcases hcase with rfl | hcase
  · simp only [List.take_succ_cons, List.take_zero] at hacc
    subst hacc
    refine Wk ?_
    exact ⟨WS, WG, WN, _, (show 8 - (1) < m_1 by omega), 1, q, [b7], rfl, WF, WF, WF, WC, WC, WC, WC⟩
  rcases hcase with rfl | hcase
  · simp only [List.take_succ_cons, List.take_zero] at hacc
    subst hacc
    refine Wk ?_
    exact ⟨WS, WG, WN, _, (show 8 - (2) < m_1 by omega), 2, q, [b7, b6], rfl, WF, WF, WF, WC, WC, WC, WC⟩
  rcases hcase with rfl | hcase
  · simp only [List.take_succ_cons, List.take_zero] at hacc
    subst hacc
    refine Wk ?_
    exact ⟨WS, WG, WN, _, (show 8 - (3) < m_1 by omega), 3, q, [b7, b6, b5], rfl, WF, WF, WF, WC, WC, WC, WC⟩
  rcases hcase with rfl | hcase
  · simp only [List.take_succ_cons, List.take_zero] at hacc
    subst hacc
    refine Wk ?_
    exact ⟨WS, WG, WN, _, (show 8 - (4) < m_1 by omega), 4, q, [b7, b6, b5, b4], rfl, WF, WF, WF, WC, WC, WC, WC⟩
  rcases hcase with rfl | hcase
  · simp only [List.take_succ_cons, List.take_zero] at hacc
    subst hacc
    refine Wk ?_
    exact ⟨WS, WG, WN, _, (show 8 - (5) < m_1 by omega), 5, q, [b7, b6, b5, b4, b3], rfl, WF, WF, WF, WC, WC, WC, WC⟩
  rcases hcase with rfl | hcase
  · simp only [List.take_succ_cons, List.take_zero] at hacc
    subst hacc
    refine Wk ?_
    exact ⟨WS, WG, WN, _, (show 8 - (6) < m_1 by omega), 6, q, [b7, b6, b5, b4, b3, b2], rfl, WF, WF, WF, WC, WC, WC, WC⟩
  rcases hcase with rfl | hcase
  · simp only [List.take_succ_cons, List.take_zero] at hacc
    subst hacc
    refine Wk ?_
    exact ⟨WS, WG, WN, _, (show 8 - (7) < m_1 by omega), 7, q, [b7, b6, b5, b4, b3, b2, b1], rfl, WF, WF, WF, WC, WC, WC, WC⟩
  rcases hcase with rfl | hcase
  · simp only [List.take_succ_cons, List.take_zero] at hacc
    subst hacc
    refine Wk ?_
    exact ⟨WS, WG, WN, _, (show 8 - (8) < m_1 by omega), 8, q, [b7, b6, b5, b4, b3, b2, b1, b0], rfl, WF, WF, WF, WC, WC, WC, WC⟩
  subst hcase
  simp only [List.take_succ_cons, List.take_zero] at hacc
  subst hacc
  exact WL
end Go.Proofs.YtaelnglalpiemaaDoor

/- Predicates: Encode, as specified. -/
namespace Go.Proofs.YtaelnglalpiemaaDoor
open Go.Ab
attribute [local irreducible] Go.Ab.tyAV Go.Ab.aw Go.Ab.aops Go.Ab.kReg Go.Ab.aThen Go.Ab.aBlk Go.Ab.acond Go.Ab.aguard Go.Ab.astep Go.Ab.AStepX Go.Ab.aRet

set_option maxHeartbeats 4000000 in
theorem Enc_span (kn f t : Nat) (hk : kn = 4 ∨ kn = 5) (hf : f ≤ 67108864) (ht : t ≤ 67108864) (hp0 : PrOk ⟨kn, 0, f, t, [], 0⟩) (h : predB ⟨kn, 0, f, t, [], 0⟩ = true) (d k : Nat) :
    ACall Tryd.prog 68 [prAV ⟨kn, 0, f, t, [], 0⟩] k [(d, bitsG)] (.tup [.slice none ((leb kn ++ (leb f ++ leb t)).map byteAV), .lit (.int .i64 0)]) [] := by
  have c1 := predValid_spec _ hp0 d
  rw [h] at c1
  have c2 := numbers_spec [kn] [] (by simp) (by simp) (by simp; omega) (leb kn) (by simp)
  have hl := leb_len kn 7 (by omega)
  have c3 := numbers_spec [f, t] (leb kn) (by simp) (by simp; omega) (by simp; omega) (leb kn ++ (leb f ++ leb t)) (by simp)
  simp only [List.map_nil, List.map_cons] at c2 c3
  generalize leb kn ++ (leb f ++ leb t) = R at *
  generalize leb kn = L at *
  simp only [prAV] at *
  rcases hk with rfl | rfl
  · refine ACall.of_body mixed Tryd.func68 rfl (by kernel_rfl) Tryd.ntmps68 (by kernel_rfl) rfl (by simp) (by simp) (by simp) fun σ N hp hpn hk hkn hfree => ?_
    have hd := hp _ (List.mem_singleton.2 rfl); have hdn := hpn _ (List.mem_singleton.2 rfl); simp only at hd hdn; clear hp hpn
    have hcs := And.intro c1 (And.intro c2 (And.intro c3 True.intro))
    clear c1 c2 c3
    exact WL
  · refine ACall.of_body mixed Tryd.func68 rfl (by kernel_rfl) Tryd.ntmps68 (by kernel_rfl) rfl (by simp) (by simp) (by simp) fun σ N hp hpn hk hkn hfree => ?_
    have hd := hp _ (List.mem_singleton.2 rfl); have hdn := hpn _ (List.mem_singleton.2 rfl); simp only at hd hdn; clear hp hpn
    have hcs := And.intro c1 (And.intro c2 (And.intro c3 True.intro))
    clear c1 c2 c3
    exact WL
theorem nameB_len {n : List UInt8} (h : nameB n = true) : 1 ≤ n.length ∧ n.length ≤ 16 := by
  unfold nameB at h
  simp only [Bool.and_eq_true, decide_eq_true_eq] at h
  exact h.1
set_option maxHeartbeats 4000000 in
theorem Enc_holder (n : List UInt8) (hn : nameB n = true) (hp0 : PrOk ⟨6, 0, 0, 0, n, 0⟩) (h : predB ⟨6, 0, 0, 0, n, 0⟩ = true) (d k : Nat) :
    ACall Tryd.prog 68 [prAV ⟨6, 0, 0, 0, n, 0⟩] k [(d, bitsG)] (.tup [.slice none ((leb 6 ++ fieldB n).map byteAV), .lit (.int .i64 0)]) [] := by
  have c1 := predValid_spec _ hp0 d
  rw [h] at c1
  have hnl := nameB_len hn
  have c2 := numbers_spec [6] [] (by simp) (by simp) (by simp) (leb 6) (by simp)
  have hl := leb_len 6 7 (by omega)
  have c3 := field_ok_f (leb 6) n (by omega) (by omega)
  simp only [List.map_nil, List.map_cons] at c2 c3
  generalize leb 6 ++ fieldB n = R at *
  generalize leb 6 = L at *
  simp only [prAV] at *
  refine ACall.of_body mixed Tryd.func68 rfl (by kernel_rfl) Tryd.ntmps68 (by kernel_rfl) rfl (by simp) (by simp) (by simp) fun σ N hp hpn hk hkn hfree => ?_
  have hd := hp _ (List.mem_singleton.2 rfl); have hdn := hpn _ (List.mem_singleton.2 rfl); simp only at hd hdn; clear hp hpn
  have hcs := And.intro c1 (And.intro c2 (And.intro c3 True.intro))
  clear c1 c2 c3
  exact WL
set_option maxHeartbeats 4000000 in
theorem Enc_rides (x : Nat) (hx : x ≤ 1000000) (hp0 : PrOk ⟨7, 0, 0, 0, [], x⟩) (h : predB ⟨7, 0, 0, 0, [], x⟩ = true) (d k : Nat) :
    ACall Tryd.prog 68 [prAV ⟨7, 0, 0, 0, [], x⟩] k [(d, bitsG)] (.tup [.slice none ((leb 7 ++ leb x).map byteAV), .lit (.int .i64 0)]) [] := by
  have c1 := predValid_spec _ hp0 d
  rw [h] at c1
  have c2 := numbers_spec [7] [] (by simp) (by simp) (by simp) (leb 7) (by simp)
  have hl := leb_len 7 7 (by omega)
  have c3 := numbers_spec [x] (leb 7) (by simp) (by simp; omega) (by simp; omega) (leb 7 ++ leb x) (by simp)
  simp only [List.map_nil, List.map_cons] at c2 c3
  generalize leb 7 ++ leb x = R at *
  generalize leb 7 = L at *
  simp only [prAV] at *
  refine ACall.of_body mixed Tryd.func68 rfl (by kernel_rfl) Tryd.ntmps68 (by kernel_rfl) rfl (by simp) (by simp) (by simp) fun σ N hp hpn hk hkn hfree => ?_
  have hd := hp _ (List.mem_singleton.2 rfl); have hdn := hpn _ (List.mem_singleton.2 rfl); simp only at hd hdn; clear hp hpn
  have hcs := And.intro c1 (And.intro c2 (And.intro c3 True.intro))
  clear c1 c2 c3
  exact WL
theorem encP_mask {kn : Nat} {m : Int} (hk : kn = 1 ∨ kn = 2 ∨ kn = 3) : encP ⟨kn, m, 0, 0, [], 0⟩ = leb kn ++ eightB m := by
  unfold encP
  simp only
  rw [if_neg (by omega), if_neg (by omega), if_neg (by omega)]
  rfl
theorem encP_span {kn f t : Nat} (hk : kn = 4 ∨ kn = 5) : encP ⟨kn, 0, f, t, [], 0⟩ = leb kn ++ (leb f ++ leb t) := by
  unfold encP
  simp only
  rw [if_pos (by omega)]
  rfl
theorem encP_holder (n : List UInt8) : encP ⟨6, 0, 0, 0, n, 0⟩ = leb 6 ++ fieldB n := rfl
theorem encP_rides (x : Nat) : encP ⟨7, 0, 0, 0, [], x⟩ = leb 7 ++ leb x := rfl
/-- The bytes of a valid predicate. -/
theorem Enc_spec (p : Pr) (hp0 : PrOk p) (h : predB p = true) (d k : Nat) :
    ACall Tryd.prog 68 [prAV p] k [(d, bitsG)] (.tup [.slice none ((encP p).map byteAV), .lit (.int .i64 0)]) [] := by
  cases PV.of h with
  | mask kn m hk hm => rw [encP_mask (by omega)]; exact Enc_mask kn m (by omega) hp0 h d k
  | span kn f t hk => rw [encP_span (by omega)]; exact Enc_span kn f t (by omega) (by omega) (by omega) hp0 h d k
  | holder n hn => exact Enc_holder n hn hp0 h d k
  | rides x hx => exact Enc_rides x hx hp0 h d k

set_option maxHeartbeats 4000000 in
theorem refEnc_mask (kn : Nat) (m : Int) (hk : kn = 1 ∨ kn = 2 ∨ kn = 3) (hp0 : PrOk ⟨kn, m, 0, 0, [], 0⟩) (h : predB ⟨kn, m, 0, 0, [], 0⟩ = true) (k : Nat) :
    ACall Tryd.prog 71 [prAV ⟨kn, m, 0, 0, [], 0⟩] k [] (.tup [.slice none ((leb kn ++ eightB m).map byteAV), .lit (.int .i64 0)]) [] := by
  have c1 := refPred_spec _ hp0
  rw [h] at c1
  have c2 := Number_spec kn
  have hk9 : kn < 128 ^ 9 := by omega
  have hl := leb_len kn 7 (by omega)
  have c3 := Eight_spec m hp0.m0 hp0.m1
  have h8 := eightB_len m
  generalize leb kn = L at *
  generalize eightB m = E at *
  simp only [prAV] at *
  rcases hk with rfl | rfl | rfl
  all_goals (
    refine ACall.of_body mixed Tryd.func71 rfl (by kernel_rfl) Tryd.ntmps71 (by kernel_rfl) rfl (by simp) (by simp) (by simp) fun σ N hp hpn hk hkn hfree => ?_
    have hcs := And.intro c1 (And.intro (fun k => c2 k hk9) (And.intro c3 True.intro))
    clear c1 c2 c3
    exact WL)
set_option maxHeartbeats 4000000 in
theorem refEnc_span (kn f t : Nat) (hk : kn = 4 ∨ kn = 5) (hf : f ≤ 67108864) (ht : t ≤ 67108864) (hp0 : PrOk ⟨kn, 0, f, t, [], 0⟩) (h : predB ⟨kn, 0, f, t, [], 0⟩ = true) (k : Nat) :
    ACall Tryd.prog 71 [prAV ⟨kn, 0, f, t, [], 0⟩] k [] (.tup [.slice none ((leb kn ++ (leb f ++ leb t)).map byteAV), .lit (.int .i64 0)]) [] := by
  have c1 := refPred_spec _ hp0
  rw [h] at c1
  have c2 := Number_spec kn
  have c3 := Number_spec_f f
  have c4 := Number_spec_f t
  have hk9 : kn < 128 ^ 9 := by omega
  have hf9 : f < 128 ^ 9 := by omega
  have ht9 : t < 128 ^ 9 := by omega
  have hl := leb_len kn 7 (by omega)
  have hl2 := leb_len f 7 (by omega)
  have hl3 := leb_len t 7 (by omega)
  generalize leb kn = L at *
  generalize leb f = L1 at *
  generalize leb t = L2 at *
  simp only [prAV] at *
  rcases hk with rfl | rfl
  all_goals (
    refine ACall.of_body mixed Tryd.func71 rfl (by kernel_rfl) Tryd.ntmps71 (by kernel_rfl) rfl (by simp) (by simp) (by simp) fun σ N hp hpn hk hkn hfree => ?_
    have hcs := And.intro c1 (And.intro (fun k => c2 k hk9) (And.intro (fun k => c3 k hf9) (And.intro (fun k => c4 k ht9) True.intro)))
    clear c1 c2 c3 c4
    exact WL)
set_option maxHeartbeats 4000000 in
theorem refEnc_holder (n : List UInt8) (hn : nameB n = true) (hp0 : PrOk ⟨6, 0, 0, 0, n, 0⟩) (h : predB ⟨6, 0, 0, 0, n, 0⟩ = true) (k : Nat) :
    ACall Tryd.prog 71 [prAV ⟨6, 0, 0, 0, n, 0⟩] k [] (.tup [.slice none ((leb 6 ++ fieldB n).map byteAV), .lit (.int .i64 0)]) [] := by
  have c1 := refPred_spec _ hp0
  rw [h] at c1
  have hnl := nameB_len hn
  have c2 := Number_spec 6
  have c3 := Field_spec_f n (by omega)
  have h69 : 6 < 128 ^ 9 := by omega
  have hl := leb_len 6 7 (by omega)
  have hl2 := leb_len n.length 2 (by omega)
  have hf : (fieldB n).length ≤ 30 := by simp only [fieldB, List.length_append]; omega
  generalize leb 6 = L at *
  generalize fieldB n = L1 at *
  simp only [prAV] at *
  refine ACall.of_body mixed Tryd.func71 rfl (by kernel_rfl) Tryd.ntmps71 (by kernel_rfl) rfl (by simp) (by simp) (by simp) fun σ N hp hpn hk hkn hfree => ?_
  have hcs := And.intro c1 (And.intro (fun k => c2 k h69) (And.intro c3 True.intro))
  clear c1 c2 c3
  exact WL
set_option maxHeartbeats 4000000 in
theorem refEnc_rides (x : Nat) (hx : x ≤ 1000000) (hp0 : PrOk ⟨7, 0, 0, 0, [], x⟩) (h : predB ⟨7, 0, 0, 0, [], x⟩ = true) (k : Nat) :
    ACall Tryd.prog 71 [prAV ⟨7, 0, 0, 0, [], x⟩] k [] (.tup [.slice none ((leb 7 ++ leb x).map byteAV), .lit (.int .i64 0)]) [] := by
  have c1 := refPred_spec _ hp0
  rw [h] at c1
  have c2 := Number_spec 7
  have c3 := Number_spec_f x
  have h79 : 7 < 128 ^ 9 := by omega
  have hx9 : x < 128 ^ 9 := by omega
  have hl := leb_len 7 7 (by omega)
  have hl2 := leb_len x 7 (by omega)
  generalize leb 7 = L at *
  generalize leb x = L1 at *
  simp only [prAV] at *
  refine ACall.of_body mixed Tryd.func71 rfl (by kernel_rfl) Tryd.ntmps71 (by kernel_rfl) rfl (by simp) (by simp) (by simp) fun σ N hp hpn hk hkn hfree => ?_
  have hcs := And.intro c1 (And.intro (fun k => c2 k h79) (And.intro (fun k => c3 k hx9) True.intro))
  clear c1 c2 c3
  exact WL
theorem refEnc_spec (p : Pr) (hp0 : PrOk p) (h : predB p = true) (k : Nat) :
    ACall Tryd.prog 71 [prAV p] k [] (.tup [.slice none ((encP p).map byteAV), .lit (.int .i64 0)]) [] := by
  cases PV.of h with
  | mask kn m hk hm => rw [encP_mask (by omega)]; exact refEnc_mask kn m (by omega) hp0 h k
  | span kn f t hk => rw [encP_span (by omega)]; exact refEnc_span kn f t (by omega) (by omega) (by omega) hp0 h k
  | holder n hn => exact refEnc_holder n hn hp0 h k
  | rides x hx => exact refEnc_rides x hx hp0 h k
end Go.Proofs.YtaelnglalpiemaaDoor

/- Caveats: Encode, as specified. -/
namespace Go.Proofs.YtaelnglalpiemaaDoor
open Go.Ab
attribute [local irreducible] Go.Ab.tyAV Go.Ab.aw Go.Ab.aops Go.Ab.kReg Go.Ab.aThen Go.Ab.aBlk Go.Ab.acond Go.Ab.aguard Go.Ab.astep Go.Ab.AStepX Go.Ab.aRet

def encC (c : Ca) : List UInt8 := if c.third = false then 1 :: encP c.first else 2 :: (leb c.party.toNat ++ (fieldB c.ticket ++ fieldB c.box))
/-- The valid caveats. -/
inductive CV : Ca → Prop where
  | first (p : Pr) (hp : predB p = true) : CV ⟨false, p, 0, [], []⟩
  | third (n : Nat) (hn : n ≤ 7) (t b : List UInt8) (ht : 1 ≤ t.length ∧ t.length ≤ 1024) (hb : 1 ≤ b.length ∧ b.length ≤ 1024) : CV ⟨true, zeroPr, n, t, b⟩
theorem sizedB_iff {b : List UInt8} : sizedB b = true ↔ 1 ≤ b.length ∧ b.length ≤ 1024 := by unfold sizedB; simp
theorem CV.of {c : Ca} (h : cavB c = true) : CV c := by
  obtain ⟨th, p, n, t, b⟩ := c
  unfold cavB at h
  simp only at h
  split at h
  · rename_i e; subst e
    simp only [Bool.and_eq_true, decide_eq_true_eq, List.length_eq_zero_iff] at h
    obtain ⟨h1, h2, h3, h4⟩ := h
    subst h2 h3 h4
    exact .first p h1
  · rename_i e
    obtain rfl : th = true := by cases th <;> simp_all
    simp only [Bool.and_eq_true, decide_eq_true_eq, sizedB_iff] at h
    obtain ⟨h1, h2, h3, h4, h5⟩ := h
    subst h1
    obtain ⟨m, rfl⟩ := Int.eq_ofNat_of_zero_le h2
    exact .third m (by omega) t b h4 h5
theorem CV.ok {c : Ca} (h : CV c) : cavB c = true := by
  cases h with
  | first p hp => simp [cavB, hp]
  | third n hn t b ht hb =>
    simp [cavB, sizedB_iff.2 ht, sizedB_iff.2 hb, hn]
    omega
theorem encP_len (p : Pr) (h : predB p = true) : 1 ≤ (encP p).length ∧ (encP p).length ≤ 40 := by
  cases PV.of h with
  | mask kn m hk hm =>
    rw [encP_mask (by omega), List.length_append, eightB_len]
    have := leb_len kn 1 (by omega)
    omega
  | span kn f t hk =>
    rw [encP_span (by omega), List.length_append, List.length_append]
    have := leb_len kn 1 (by omega)
    have := leb_len f 5 (by omega)
    have := leb_len t 5 (by omega)
    have := leb_pos kn
    omega
  | holder n hn =>
    have := leb_len n.length 1 (by have := nameB_len hn; omega)
    have := leb_len 6 1 (by omega)
    have := nameB_len hn
    have := leb_pos 6
    rw [encP_holder, List.length_append, fieldB, List.length_append]
    omega
  | rides x hx =>
    have := leb_len x 5 (by omega)
    have := leb_len 7 1 (by omega)
    have := leb_pos 7
    rw [encP_rides, List.length_append]
    omega
theorem encC_len (c : Ca) (h : cavB c = true) : 1 ≤ (encC c).length ∧ (encC c).length ≤ 3000 := by
  cases CV.of h with
  | first p hp =>
    have := encP_len p hp
    simp only [encC, if_true, List.length_cons]
    omega
  | third n hn t b ht hb =>
    have := leb_len n 7 (by omega)
    have := leb_len t.length 7 (by omega)
    have := leb_len b.length 7 (by omega)
    simp only [encC, Bool.true_eq_false, if_false, List.length_cons, List.length_append, fieldB, Int.toNat_natCast]
    omega

theorem cEnc_bad (c : Ca) (hp0 : PrOk c.first) (h : cavB c = false) (d k : Nat) :
    ACall Tryd.prog 46 [caAV c] k [(d, bitsG)] (.tup [.nils, .lit (.int .i64 5)]) [] := by
  have c1 := cavValid_spec c hp0 d
  rw [h] at c1
  refine ACall.of_body mixed Tryd.func46 rfl (by kernel_rfl) Tryd.ntmps46 (by kernel_rfl) rfl (by simp) (by simp) (by simp) fun σ N hp hpn hk hkn hfree => ?_
  have hd := hp _ (List.mem_singleton.2 rfl); have hdn := hpn _ (List.mem_singleton.2 rfl); simp only at hd hdn; clear hp hpn
  have hcs := And.intro c1 True.intro
  clear c1
  exact W0
theorem rEnc_bad (c : Ca) (hp0 : PrOk c.first) (h : cavB c = false) (k : Nat) :
    ACall Tryd.prog 47 [caAV c] k [] (.tup [.nils, .lit (.int .i64 5)]) [] := by
  have c1 := refCav_spec c hp0
  rw [h] at c1
  refine ACall.of_body mixed Tryd.func47 rfl (by kernel_rfl) Tryd.ntmps47 (by kernel_rfl) rfl (by simp) (by simp) (by simp) fun σ N hp hpn hk hkn hfree => ?_
  have hcs := And.intro c1 True.intro
  clear c1
  exact W0
theorem cEnc_first (p : Pr) (hp0 : PrOk p) (h : predB p = true) (d k : Nat) :
    ACall Tryd.prog 46 [caAV ⟨false, p, 0, [], []⟩] k [(d, bitsG)] (.tup [.slice none ((1 :: encP p).map byteAV), .lit (.int .i64 0)]) [] := by
  have c1 := cavValid_spec ⟨false, p, 0, [], []⟩ hp0 d
  rw [(CV.first p h).ok] at c1
  have c2 := Enc_spec p hp0 h d
  have hl := encP_len p h
  generalize encP p = R at *
  have hb1 : byteAV 1 = .lit (.int .u8 1) := rfl
  refine ACall.of_body mixed Tryd.func46 rfl (by kernel_rfl) Tryd.ntmps46 (by kernel_rfl) rfl (by simp) (by simp) (by simp) fun σ N hp hpn hk hkn hfree => ?_
  have hd := hp _ (List.mem_singleton.2 rfl); have hdn := hpn _ (List.mem_singleton.2 rfl); simp only at hd hdn; clear hp hpn
  have hcs := And.intro c1 (And.intro c2 True.intro)
  clear c1 c2
  exact WL
theorem rEnc_first (p : Pr) (hp0 : PrOk p) (h : predB p = true) (k : Nat) :
    ACall Tryd.prog 47 [caAV ⟨false, p, 0, [], []⟩] k [] (.tup [.slice none ((1 :: encP p).map byteAV), .lit (.int .i64 0)]) [] := by
  have c1 := refCav_spec ⟨false, p, 0, [], []⟩ hp0
  rw [(CV.first p h).ok] at c1
  have c2 := refEnc_spec p hp0 h
  have hl := encP_len p h
  generalize encP p = R at *
  have hb1 : byteAV 1 = .lit (.int .u8 1) := rfl
  refine ACall.of_body mixed Tryd.func47 rfl (by kernel_rfl) Tryd.ntmps47 (by kernel_rfl) rfl (by simp) (by simp) (by simp) fun σ N hp hpn hk hkn hfree => ?_
  have hcs := And.intro c1 (And.intro c2 True.intro)
  clear c1 c2
  exact WL
theorem zeroPr_ok : PrOk zeroPr := ⟨by decide, by decide, by decide⟩
set_option maxHeartbeats 4000000 in
theorem cEnc_third (n : Nat) (hn : n ≤ 7) (t b : List UInt8) (ht : 1 ≤ t.length ∧ t.length ≤ 1024) (hb : 1 ≤ b.length ∧ b.length ≤ 1024) (d k : Nat) :
    ACall Tryd.prog 46 [caAV ⟨true, zeroPr, n, t, b⟩] k [(d, bitsG)] (.tup [.slice none ((2 :: (leb n ++ (fieldB t ++ fieldB b))).map byteAV), .lit (.int .i64 0)]) [] := by
  have c1 := cavValid_spec ⟨true, zeroPr, n, t, b⟩ zeroPr_ok d
  rw [(CV.third n hn t b ht hb).ok] at c1
  have hl := leb_len n 7 (by omega)
  have hl1 := leb_len t.length 7 (by omega)
  have hl2 := leb_len b.length 7 (by omega)
  have hf1 : (fieldB t).length ≤ 2000 := by simp only [fieldB, List.length_append]; omega
  have c2 := Append_ok [2] (by simp) n (by omega)
  have c3 := field_ok ([2] ++ leb n) t (by simp; omega) ht.2
  have c4 := field_ok ([2] ++ leb n ++ fieldB t) b (by simp; omega) hb.2
  have hR : 2 :: (leb n ++ (fieldB t ++ fieldB b)) = [2] ++ leb n ++ fieldB t ++ fieldB b := by simp
  have h2l : [(2 : UInt8)].length + (leb n).length = ([2] ++ leb n).length := by simp; omega
  rw [hR]
  rw [h2l] at c2
  clear hR h2l
  generalize [2] ++ leb n ++ fieldB t ++ fieldB b = R3 at *
  generalize [2] ++ leb n ++ fieldB t = R2 at *
  generalize [2] ++ leb n = R1 at *
  have hb1 : byteAV 2 = .lit (.int .u8 2) := rfl
  simp only [caAV, List.map_cons, List.map_nil, hb1] at *
  refine ACall.of_body mixed Tryd.func46 rfl (by kernel_rfl) Tryd.ntmps46 (by kernel_rfl) rfl (by simp) (by simp) (by simp) fun σ N hp hpn hk hkn hfree => ?_
  have hd := hp _ (List.mem_singleton.2 rfl); have hdn := hpn _ (List.mem_singleton.2 rfl); simp only at hd hdn; clear hp hpn
  have hcs := And.intro c1 (And.intro c2 True.intro)
  clear c1 c2
  refine Wk ?_
  refine go_loopB (N + 1) mixed (by kernel_rfl) [6, 7, 9, 38, 39, 40, 41, 42, 43, 44, 45, 46, 47, 48, 49] [] (fun m_ s_ σ_ n_ => ∃ (u : Nat) (q : Nat) (acc : List UInt8), m_ = 2 - u ∧ s_ 38 = .lit (.int .i64 u) ∧ s_ 6 = .slice (some q) (acc.map byteAV) ∧ s_ 7 = .lit (.int .i64 0) ∧ σ_ (q) = .row 5 1 acc.length ∧ (u = 0 ∧ acc = R1 ∨ u = 1 ∧ acc = R2 ∨ u = 2 ∧ acc = R3) ∧ (N + 1 ≤ q) ∧ (q < n_)) ⟨_, 0, _, R1, rfl, WF, WF, WF, WF, WC, WC, WC⟩ ?_
  intro m_1 s_1 σ_1 n_1 hs_1 hf_1 hn_1 hI_1
  obtain ⟨u, q, acc, hm_1, h1_38, h1_6, h1_7, e1_0, hu, hq, hqn⟩ := hI_1
  have h1_2 := (hs_1.at 2 (by decide)).trans WE
  have h1_3 := (hs_1.at 3 (by decide)).trans WE
  have h1_37 := (hs_1.at 37 (by decide)).trans WE
  have k1_0 := (hf_1.at (N) (by omega) WQ).trans WE
  have hlow : ∀ id, id < N → σ_1 id = σ id := fun id hid => (hf_1.at id (by omega) WQ).trans WH
  rcases hu with ⟨rfl, rfl⟩ | ⟨rfl, rfl⟩ | ⟨rfl, rfl⟩
  · have hcs := And.intro c3 True.intro
    clear c3 c4
    refine Wk ?_
    exact ⟨WS, WG, WN, _, (show 2 - (1) < m_1 by omega), 1, _, R2, rfl, WF, WF, WF, WF, WC, WC, WC⟩
  · have hcs := And.intro c4 True.intro
    clear c3 c4
    refine Wk ?_
    exact ⟨WS, WG, WN, _, (show 2 - (2) < m_1 by omega), 2, _, R3, rfl, WF, WF, WF, WF, WC, WC, WC⟩
  · clear c3 c4
    exact WL
set_option maxHeartbeats 4000000 in
theorem rEnc_third (n : Nat) (hn : n ≤ 7) (t b : List UInt8) (ht : 1 ≤ t.length ∧ t.length ≤ 1024) (hb : 1 ≤ b.length ∧ b.length ≤ 1024) (k : Nat) :
    ACall Tryd.prog 47 [caAV ⟨true, zeroPr, n, t, b⟩] k [] (.tup [.slice none ((2 :: (leb n ++ (fieldB t ++ fieldB b))).map byteAV), .lit (.int .i64 0)]) [] := by
  have c1 := refCav_spec ⟨true, zeroPr, n, t, b⟩ zeroPr_ok
  rw [(CV.third n hn t b ht hb).ok] at c1
  have hl := leb_len n 7 (by omega)
  have hl1 := leb_len t.length 7 (by omega)
  have hl2 := leb_len b.length 7 (by omega)
  have hf1 : (fieldB t).length ≤ 2000 := by simp only [fieldB, List.length_append]; omega
  have hf2 : (fieldB b).length ≤ 2000 := by simp only [fieldB, List.length_append]; omega
  have hn9 : n < 128 ^ 9 := by omega
  have c2 := Number_spec_f n
  have c3 := Field_spec_f t (by omega)
  have c4 := Field_spec_f b (by omega)
  generalize leb n = L1 at *
  generalize fieldB t = L2 at *
  generalize fieldB b = L3 at *
  have hb1 : byteAV 2 = .lit (.int .u8 2) := rfl
  simp only [caAV] at *
  refine ACall.of_body mixed Tryd.func47 rfl (by kernel_rfl) Tryd.ntmps47 (by kernel_rfl) rfl (by simp) (by simp) (by simp) fun σ N hp hpn hk hkn hfree => ?_
  have hcs := And.intro c1 (And.intro (fun k => c2 k hn9) (And.intro c3 (And.intro c4 True.intro)))
  clear c1 c2 c3 c4
  exact WL
theorem cEnc_ok (c : Ca) (hp0 : PrOk c.first) (h : cavB c = true) (d k : Nat) :
    ACall Tryd.prog 46 [caAV c] k [(d, bitsG)] (.tup [.slice none ((encC c).map byteAV), .lit (.int .i64 0)]) [] := by
  cases CV.of h with
  | first p hp => exact cEnc_first p hp0 hp d k
  | third n hn t b ht hb => exact cEnc_third n hn t b ht hb d k
theorem rEnc_ok (c : Ca) (hp0 : PrOk c.first) (h : cavB c = true) (k : Nat) :
    ACall Tryd.prog 47 [caAV c] k [] (.tup [.slice none ((encC c).map byteAV), .lit (.int .i64 0)]) [] := by
  cases CV.of h with
  | first p hp => exact rEnc_first p hp0 hp k
  | third n hn t b ht hb => exact rEnc_third n hn t b ht hb k
/-- What Encode returns. -/
def encS (c : Ca) : List UInt8 × Nat := if cavB c = true then (encC c, 0) else ([], 5)
def encAV (x : List UInt8 × Nat) : AV := .tup [.slice none (x.1.map byteAV), .lit (.int .i64 x.2)]
theorem cEnc_spec (c : Ca) (hp0 : PrOk c.first) (d k : Nat) : ACall Tryd.prog 46 [caAV c] k [(d, bitsG)] (encAV (encS c)) [] := by
  unfold encS
  split
  · rename_i h; exact cEnc_ok c hp0 h d k
  · rename_i h
    exact (cEnc_bad c hp0 (by simpa using h) d k).result (AV.sub_tup (.cons AV.le_nils0 (.cons (AV.le_refl _) .nil)))
theorem rEnc_spec (c : Ca) (hp0 : PrOk c.first) (k : Nat) : ACall Tryd.prog 47 [caAV c] k [] (encAV (encS c)) [] := by
  unfold encS
  split
  · rename_i h; exact rEnc_ok c hp0 h k
  · rename_i h
    exact (rEnc_bad c hp0 (by simpa using h) k).result (AV.sub_tup (.cons AV.le_nils0 (.cons (AV.le_refl _) .nil)))
theorem encS_len (c : Ca) : (encS c).1.length ≤ 3000 := by
  unfold encS
  split
  · rename_i h; exact (encC_len c h).2
  · simp
theorem awake12_spec (d k : Nat) : ACall Tryd.prog 22 [] k [(d, bitsG)] (.lit (.bool true)) [] := by
  have c1 := cEnc_first ⟨7, 0, 0, 0, [], 5⟩ ⟨by decide, by decide, by decide⟩ (by decide) d
  have hR : 1 :: encP ⟨7, 0, 0, 0, [], 5⟩ = [1, 7, 5] := by
    rw [show encP ⟨7, 0, 0, 0, [], 5⟩ = leb 7 ++ leb 5 from rfl, leb_small (by decide), leb_small (by decide)]
    rfl
  rw [hR] at c1
  have c2 := Same_spec [1, 7, 5] [1, 7, 5] (by decide)
  clear hR
  rw [decide_eq_true rfl] at c2
  simp only [caAV, prAV, List.map_cons, List.map_nil] at *
  refine ACall.of_body mixed Tryd.func22 rfl (by kernel_rfl) Tryd.ntmps22 (by kernel_rfl) rfl (by simp) (by simp) (by simp) fun σ N hp hpn hk hkn hfree => ?_
  have hd := hp _ (List.mem_singleton.2 rfl); have hdn := hpn _ (List.mem_singleton.2 rfl); simp only at hd hdn; clear hp hpn
  have hcs := And.intro c1 (And.intro c2 True.intro)
  clear c1 c2
  exact W0
end Go.Proofs.YtaelnglalpiemaaDoor

/- Predicates: readers. -/
namespace Go.Proofs.YtaelnglalpiemaaDoor
open Go.Ab
attribute [local irreducible] Go.Ab.tyAV Go.Ab.aw Go.Ab.aops Go.Ab.kReg Go.Ab.aThen Go.Ab.aBlk Go.Ab.acond Go.Ab.aguard Go.Ab.astep Go.Ab.AStepX Go.Ab.aRet

/-- A reader: bytes, how many are used, the first error. -/
def rdBox (b : List UInt8) (u e : Nat) : Ent := .box 140 (.agg [.slice none (b.map byteAV), .lit (.int .i64 u), .lit (.int .i64 e)])
def RdBox (b : List UInt8) (u e : Nat) : Ent := .box 107 (.agg [.slice none (b.map byteAV), .lit (.int .i64 u), .lit (.int .i64 e)])
@[simp, go_sem] theorem rdBox_ne (b : List UInt8) (u e : Nat) : (rdBox b u e = .none) = False := by simp [rdBox]
@[simp, go_sem] theorem RdBox_ne (b : List UInt8) (u e : Nat) : (RdBox b u e = .none) = False := by simp [RdBox]
@[go_sem] theorem rdBox_ren (b : List UInt8) (u e : Nat) (f : Nat → Option Nat) : (rdBox b u e).ren f = rdBox b u e := by
  simp only [rdBox, ent_ren_box, AV.ren, AV.renl, renl_bytes, Option.bind_none]
@[go_sem] theorem RdBox_ren (b : List UInt8) (u e : Nat) (f : Nat → Option Nat) : (RdBox b u e).ren f = RdBox b u e := by
  simp only [RdBox, ent_ren_box, AV.ren, AV.renl, renl_bytes, Option.bind_none]
/-- A number is read: the number, how many bytes are used then, the error. -/
def numR (b : List UInt8) (u : Nat) : Nat × Nat × Nat := ((rdS (b.drop u)).1, u + (rdS (b.drop u)).2.1, (rdS (b.drop u)).2.2)
def fldR (b : List UInt8) (u : Nat) : List UInt8 × Nat × Nat := ((rdF (b.drop u)).1, u + (rdF (b.drop u)).2.1, (rdF (b.drop u)).2.2)
theorem rdF_le (b : List UInt8) : (rdF b).2.1 ≤ b.length := by
  have := rdS_le b
  unfold rdF
  split
  · simp
  split
  · simp
  split
  · simp
  · simp only; omega
theorem numR_le {b : List UInt8} {u : Nat} (h : u ≤ b.length) : (numR b u).2.1 ≤ b.length := by
  have := rdS_le (b.drop u)
  rw [List.length_drop] at this
  unfold numR
  simp only
  omega
theorem fldR_le {b : List UInt8} {u : Nat} (h : u ≤ b.length) : (fldR b u).2.1 ≤ b.length := by
  have := rdF_le (b.drop u)
  rw [List.length_drop] at this
  unfold fldR
  simp only
  omega
theorem rdS_e (b : List UInt8) : (rdS b).2.2 ≤ 100 := by
  unfold rdS
  repeat' split
  all_goals simp

theorem rnum_spec (b : List UInt8) (u : Nat) (hu : u ≤ b.length) (hb : b.length ≤ 1000000) (d k : Nat) :
    ACall Tryd.prog 109 [.ptr d [] 0] k [(d, rdBox b u 0)] (.lit (.int .i64 (numR b u).1)) [(d, rdBox b (numR b u).2.1 (numR b u).2.2)] := by
  have c1 := Read_spec (b.drop u) (by rw [List.length_drop]; omega)
  have hl := rdS_le (b.drop u)
  rw [List.length_drop] at hl
  have hd1 : (b.map byteAV).drop u = (b.drop u).map byteAV := by rw [List.map_drop]
  unfold numR
  generalize rdS (b.drop u) = R at *
  obtain ⟨n, q, e⟩ := R
  simp only [rdAV] at *
  generalize b.drop u = t at *
  simp only [rdBox]
  refine ACall.of_body mixed Tryd.func109 rfl (by kernel_rfl) Tryd.ntmps109 (by kernel_rfl) rfl (by simp) (by simp) (by simp) fun σ N hp hpn hk hkn hfree => ?_
  have hd := hp _ (List.mem_singleton.2 rfl); have hdn := hpn _ (List.mem_singleton.2 rfl); simp only at hd hdn; clear hp hpn
  have hcs := And.intro c1 True.intro
  clear c1
  refine Wk ?_
  refine go_resultW [(d, .box 140 (.agg [.slice none (b.map byteAV), .lit (.int .i64 ((u : Int) + (q : Int))), .lit (.int .i64 (e : Int))]))] (by simp (disch := omega) [go_sem, *, -List.reduceReplicate]; rfl) (by first | rfl | (simp (disch := omega) [go_sem]; done) | (simp (disch := omega) [go_sem, *]; done) | simp (disch := omega) [go_sem]) (fun id hid => by simp only [wr_cons, wr_nil]; try (by_cases hdd : id = d; (· (subst hdd; simp (disch := omega) [go_sem, *])); (· (simp (disch := omega) only [upd_ne]; try (first | exact hlow id hid hdd | exact hlow id hid))))) (by simp) (by simp (disch := omega) [go_sem, *])

theorem or64 (y x : Int) (h0 : 0 ≤ y) (h1 : y < 72057594037927936) (h2 : 0 ≤ x) (h3 : x < 256) : bits .or .u64 (y * 256) x = y * 256 + x :=
  bits_join .u64 64 (by decide) (fun n a b => wrap_u64r (by omega) (by omega)) 8 (y * 256) x (by omega) (by omega) (by omega) h2 (by omega) (by omega)
/-- Bytes as a number, the greatest first. -/
def be8 (l : List UInt8) : Nat := l.foldl (fun m x => 256 * m + x.toNat) 0
theorem be8_snoc (l : List UInt8) (x : UInt8) : be8 (l ++ [x]) = 256 * be8 l + x.toNat := by simp [be8]
theorem be8_lt (l : List UInt8) : be8 l < 256 ^ l.length := by
  have key : ∀ (r : List UInt8) (m j : Nat), m < 256 ^ j → r.foldl (fun m x => 256 * m + x.toNat) m < 256 ^ (j + r.length) := by
    intro r
    induction r with
    | nil => intro m j h; simpa using h
    | cons x r ih =>
      intro m j h
      have hx := x.toNat_lt
      have := ih (256 * m + x.toNat) (j + 1) (by rw [Nat.pow_succ]; omega)
      rw [List.foldl_cons, List.length_cons]
      rw [show j + (r.length + 1) = j + 1 + r.length from by omega]
      exact this
  have := key l 0 0 (by simp)
  simpa [be8] using this
theorem be8_take {L : List UInt8} {i : Nat} (h : i < L.length) : be8 (L.take (i + 1)) = 256 * be8 (L.take i) + L[i].toNat := by
  rw [List.take_add_one, List.getElem?_eq_getElem h]
  exact be8_snoc _ _
theorem be8_bound {L : List UInt8} {i : Nat} (h : L.length = 8) (hi : i ≤ 8) : be8 (L.take i) < 18446744073709551616 ∧ (i < 8 → be8 (L.take i) < 72057594037927936) := by
  have h1 := be8_lt (L.take i)
  rw [List.length_take, Nat.min_eq_left (by omega)] at h1
  have h2 : 256 ^ i ≤ 256 ^ 8 := Nat.pow_le_pow_right (by decide) hi
  refine ⟨by omega, fun h3 => ?_⟩
  have h4 : 256 ^ i ≤ 256 ^ 7 := Nat.pow_le_pow_right (by decide) (by omega)
  omega
theorem rmask_short (b : List UInt8) (u : Nat) (hu : u ≤ b.length) (hb : b.length ≤ 1000000) (hs : b.length - u < 8) (d k : Nat) :
    ACall Tryd.prog 110 [.ptr d [] 0] k [(d, rdBox b u 0)] (.lit (.int .u64 0)) [(d, rdBox b u 3)] := by
  have hs' : (b.length : Int) - (u : Int) < 8 := by omega
  simp only [rdBox]
  refine ACall.of_body mixed Tryd.func110 rfl (by kernel_rfl) Tryd.ntmps110 (by kernel_rfl) rfl (by simp) (by simp) (by simp) fun σ N hp hpn hk hkn hfree => ?_
  have hd := hp _ (List.mem_singleton.2 rfl); have hdn := hpn _ (List.mem_singleton.2 rfl); simp only at hd hdn; clear hp hpn
  refine Wk ?_
  refine go_resultW [(d, .box 140 (.agg [.slice none (b.map byteAV), .lit (.int .i64 (u : Int)), .lit (.int .i64 3)]))] (by simp (disch := omega) [go_sem, *, -List.reduceReplicate]; rfl) (by first | rfl | (simp (disch := omega) [go_sem]; done) | (simp (disch := omega) [go_sem, *]; done) | simp (disch := omega) [go_sem]) (fun id hid => by simp only [wr_cons, wr_nil]; try (by_cases hdd : id = d; (· (subst hdd; simp (disch := omega) [go_sem, *])); (· (simp (disch := omega) only [upd_ne]; try (first | exact hlow id hid hdd | exact hlow id hid))))) (by simp) (by simp (disch := omega) [go_sem, *])
theorem rmask_spec (b : List UInt8) (u : Nat) (hb : b.length ≤ 1000000) (hs : u + 8 ≤ b.length) (d k : Nat) :
    ACall Tryd.prog 110 [.ptr d [] 0] k [(d, rdBox b u 0)] (.lit (.int .u64 (be8 ((b.drop u).take 8)))) [(d, rdBox b (u + 8) 0)] := by
  have hs' : ¬ (b.length : Int) - (u : Int) < 8 := by omega
  have hlen : ((b.drop u).take 8).length = 8 := by rw [List.length_take, List.length_drop]; omega
  have h0b : be8 (List.take 0 ((b.drop u).take 8)) = 0 := by simp [be8]
  have hsl := take_drop_bytes b u 8
  have hu8 : ((u : Int) + 8).toNat = u + 8 := by omega
  generalize (b.drop u).take 8 = L at *
  simp only [rdBox]
  refine ACall.of_body mixed Tryd.func110 rfl (by kernel_rfl) Tryd.ntmps110 (by kernel_rfl) rfl (by simp) (by simp) (by simp) fun σ N hp hpn hk hkn hfree => ?_
  have hd := hp _ (List.mem_singleton.2 rfl); have hdn := hpn _ (List.mem_singleton.2 rfl); simp only at hd hdn; clear hp hpn
  refine Wk ?_
  refine go_loopF mixed (by kernel_rfl) [3, 5, 35, 36, 37, 38, 39, 40, 41, 42, 43, 44] [] (fun m_ s_ σ_ n_ => ∃ (i : Nat) (m : Nat), m_ = 8 - i ∧ s_ 35 = .lit (.int .i64 i) ∧ s_ 3 = .lit (.int .u64 m) ∧ (i ≤ 8) ∧ (be8 (L.take i) = m)) ⟨_, 0, 0, rfl, WF, WF, WC, WC⟩ ?_
  intro m_1 s_1 σ_1 n_1 hs_1 hf_1 hn_1 hI_1
  obtain ⟨i, m, hm_1, h1_35, h1_3, hi, hm⟩ := hI_1
  have h1_0 := (hs_1.at 0 (by decide)).trans WE
  have h1_2 := (hs_1.at 2 (by decide)).trans WE
  have h1_33 := (hs_1.at 33 (by decide)).trans WE
  have h1_34 := (hs_1.at 34 (by decide)).trans WE
  have k1_0 := (hf_1.at (d) (by omega) WQ).trans WE
  have hlow : ∀ id, id < N → σ_1 id = σ id := fun id hid => (hf_1.at id (by omega) WQ).trans WH
  clear h0b
  have hm1 := (be8_bound hlen hi).1
  have hm2 := (be8_bound hlen hi).2
  rw [hm] at hm1 hm2
  by_cases hi8 : i = 8
  · subst hi8
    rw [List.take_of_length_le (by omega)] at hm
    rw [hm]
    refine Wk ?_
    refine go_resultW [(d, .box 140 (.agg [.slice none (b.map byteAV), .lit (.int .i64 ((u : Int) + 8)), .lit (.int .i64 0)]))] (by simp (disch := omega) [go_sem, *, -List.reduceReplicate]; rfl) (by first | rfl | (simp (disch := omega) [go_sem]; done) | (simp (disch := omega) [go_sem, *]; done) | simp (disch := omega) [go_sem]) (fun id hid => by simp only [wr_cons, wr_nil]; try (by_cases hdd : id = d; (· (subst hdd; simp (disch := omega) [go_sem, *])); (· (simp (disch := omega) only [upd_ne]; try (first | exact hlow id hid hdd | exact hlow id hid))))) (by simp) (by simp (disch := omega) [go_sem, *])
  · have hil : i < L.length := by omega
    obtain ⟨x, hx⟩ : ∃ x, L[i] = x := ⟨_, rfl⟩
    have hxx : byteAV x = .lit (.int .u8 x.toNat) := rfl
    have hxl := x.toNat_lt
    have hm3 := be8_take hil
    rw [hm, hx] at hm3
    have w1 : IntKind.u64.wrap ((m : Int) * 256) = (m : Int) * 256 := wrap_u64r (by omega) (by omega)
    have w2 : IntKind.u64.wrap (x.toNat : Int) = (x.toNat : Int) := wrap_u64r (by omega) (by omega)
    have w3 := or64 m x.toNat (by omega) (by omega) (by omega) (by omega)
    have hm4 : (m : Int) * 256 + (x.toNat : Int) = ((256 * m + x.toNat : Nat) : Int) := by omega
    have hil8 : (i : Int) < 8 := by omega
    have hmE := hm3
    clear hm
    refine Wk ?_
    exact ⟨WS, WG, WN, _, (show 8 - (i + 1) < m_1 by omega), i + 1, 256 * m + x.toNat, rfl, WF, WF, WC, WC⟩
end Go.Proofs.YtaelnglalpiemaaDoor

/- Predicates: readers, as specified. -/
namespace Go.Proofs.YtaelnglalpiemaaDoor
open Go.Ab
attribute [local irreducible] Go.Ab.tyAV Go.Ab.aw Go.Ab.aops Go.Ab.kReg Go.Ab.aThen Go.Ab.aBlk Go.Ab.acond Go.Ab.aguard Go.Ab.astep Go.Ab.AStepX Go.Ab.aRet

/-- The end of a function that hands nothing back. -/
theorem go_fall {P : Program} {rs : List ResultVar} {k : Nat} {σ0 : Nat → Ent} {n0 : Nat} {pre post : Foot} {r : AV} {c : Cfg} (h : aRet P rs k σ0 n0 pre r post .ret c) : aRet P rs k σ0 n0 pre r post .normal c := by unfold aRet at h ⊢; exact h
theorem rnum_off (b : List UInt8) (u e : Nat) (he : e ≠ 0) (d k : Nat) :
    ACall Tryd.prog 109 [.ptr d [] 0] k [(d, rdBox b u e)] (.lit (.int .i64 0)) [(d, rdBox b u e)] := by
  have he' : ((e : Int) == 0) = false := by rw [beq_eq_false_iff_ne]; omega
  simp only [rdBox]
  refine ACall.of_body mixed Tryd.func109 rfl (by kernel_rfl) Tryd.ntmps109 (by kernel_rfl) rfl (by simp) (by simp) (by simp) fun σ N hp hpn hk hkn hfree => ?_
  have hd := hp _ (List.mem_singleton.2 rfl); have hdn := hpn _ (List.mem_singleton.2 rfl); simp only at hd hdn; clear hp hpn
  refine Wk ?_
  refine go_resultW [(d, .box 140 (.agg [.slice none (b.map byteAV), .lit (.int .i64 (u : Int)), .lit (.int .i64 (e : Int))]))] (by simp (disch := omega) [go_sem, *, -List.reduceReplicate]; rfl) (by first | rfl | (simp (disch := omega) [go_sem]; done) | (simp (disch := omega) [go_sem, *]; done) | simp (disch := omega) [go_sem]) (fun id hid => by simp only [wr_cons, wr_nil]; try (by_cases hdd : id = d; (· (subst hdd; simp (disch := omega) [go_sem, *])); (· (simp (disch := omega) only [upd_ne]; try (first | exact hlow id hid hdd | exact hlow id hid))))) (by simp) (by simp (disch := omega) [go_sem, *])
theorem rname_spec (b : List UInt8) (u : Nat) (hu : u ≤ b.length) (hb : b.length ≤ 1000000) (d k : Nat) :
    ACall Tryd.prog 111 [.ptr d [] 0] k [(d, rdBox b u 0)] (.lit (.string ⟨(fldR b u).1.toArray⟩)) [(d, rdBox b (fldR b u).2.1 (fldR b u).2.2)] := by
  have c1 := fieldRead_spec (b.drop u) (by rw [List.length_drop]; omega)
  have hl := rdF_le (b.drop u)
  rw [List.length_drop] at hl
  have hd1 : (b.map byteAV).drop u = (b.drop u).map byteAV := by rw [List.map_drop]
  unfold fldR
  generalize rdF (b.drop u) = R at *
  obtain ⟨n, q, e⟩ := R
  simp only [rdFAV] at *
  generalize b.drop u = t at *
  simp only [rdBox]
  refine ACall.of_body mixed Tryd.func111 rfl (by kernel_rfl) Tryd.ntmps111 (by kernel_rfl) rfl (by simp) (by simp) (by simp) fun σ N hp hpn hk hkn hfree => ?_
  have hd := hp _ (List.mem_singleton.2 rfl); have hdn := hpn _ (List.mem_singleton.2 rfl); simp only at hd hdn; clear hp hpn
  have hcs := And.intro c1 True.intro
  clear c1
  refine Wk ?_
  refine go_resultW [(d, .box 140 (.agg [.slice none (b.map byteAV), .lit (.int .i64 ((u : Int) + (q : Int))), .lit (.int .i64 (e : Int))]))] (by simp (disch := omega) [go_sem, *, -List.reduceReplicate]; rfl) (by first | rfl | (simp (disch := omega) [go_sem]; done) | (simp (disch := omega) [go_sem, *]; done) | simp (disch := omega) [go_sem]) (fun id hid => by simp only [wr_cons, wr_nil]; try (by_cases hdd : id = d; (· (subst hdd; simp (disch := omega) [go_sem, *])); (· (simp (disch := omega) only [upd_ne]; try (first | exact hlow id hid hdd | exact hlow id hid))))) (by simp) (by simp (disch := omega) [go_sem, *])

theorem RFail0 (b : List UInt8) (u : Nat) (e : Int) (d k : Nat) :
    ACall Tryd.prog 80 [.ptr d [] 0, .lit (.int .i64 e)] k [(d, RdBox b u 0)] (.tup []) [(d, .box 107 (.agg [.slice none (b.map byteAV), .lit (.int .i64 u), .lit (.int .i64 e)]))] := by
  simp only [RdBox]
  refine ACall.of_body mixed Tryd.func80 rfl (by kernel_rfl) Tryd.ntmps80 (by kernel_rfl) rfl (by simp) (by simp) (by simp) fun σ N hp hpn hk hkn hfree => ?_
  have hd := hp _ (List.mem_singleton.2 rfl); have hdn := hpn _ (List.mem_singleton.2 rfl); simp only at hd hdn; clear hp hpn
  refine Wk ?_
  refine go_fall ?_
  refine go_resultW [(d, .box 107 (.agg [.slice none (b.map byteAV), .lit (.int .i64 (u : Int)), .lit (.int .i64 e)]))] (by simp (disch := omega) [go_sem, *, -List.reduceReplicate]; rfl) (by first | rfl | (simp (disch := omega) [go_sem]; done) | (simp (disch := omega) [go_sem, *]; done) | simp (disch := omega) [go_sem]) (fun id hid => by simp only [wr_cons, wr_nil]; try (by_cases hdd : id = d; (· (subst hdd; simp (disch := omega) [go_sem, *])); (· (simp (disch := omega) only [upd_ne]; try (first | exact hlow id hid hdd | exact hlow id hid))))) (by simp) (by simp (disch := omega) [go_sem, *])
theorem RFail1 (b : List UInt8) (u e0 : Nat) (h : e0 ≠ 0) (e : Int) (d k : Nat) :
    ACall Tryd.prog 80 [.ptr d [] 0, .lit (.int .i64 e)] k [(d, RdBox b u e0)] (.tup []) [(d, RdBox b u e0)] := by
  have he' : ((e0 : Int) == 0) = false := by rw [beq_eq_false_iff_ne]; omega
  simp only [RdBox]
  refine ACall.of_body mixed Tryd.func80 rfl (by kernel_rfl) Tryd.ntmps80 (by kernel_rfl) rfl (by simp) (by simp) (by simp) fun σ N hp hpn hk hkn hfree => ?_
  have hd := hp _ (List.mem_singleton.2 rfl); have hdn := hpn _ (List.mem_singleton.2 rfl); simp only at hd hdn; clear hp hpn
  refine Wk ?_
  refine go_fall ?_
  refine go_resultW [(d, .box 107 (.agg [.slice none (b.map byteAV), .lit (.int .i64 (u : Int)), .lit (.int .i64 (e0 : Int))]))] (by simp (disch := omega) [go_sem, *, -List.reduceReplicate]; rfl) (by first | rfl | (simp (disch := omega) [go_sem]; done) | (simp (disch := omega) [go_sem, *]; done) | simp (disch := omega) [go_sem]) (fun id hid => by simp only [wr_cons, wr_nil]; try (by_cases hdd : id = d; (· (subst hdd; simp (disch := omega) [go_sem, *])); (· (simp (disch := omega) only [upd_ne]; try (first | exact hlow id hid hdd | exact hlow id hid))))) (by simp) (by simp (disch := omega) [go_sem, *])
theorem RNum_spec (b : List UInt8) (u : Nat) (hu : u ≤ b.length) (hb : b.length ≤ 1000000) (d k : Nat) :
    ACall Tryd.prog 77 [.ptr d [] 0] k [(d, RdBox b u 0)] (.lit (.int .i64 (numR b u).1)) [(d, RdBox b (numR b u).2.1 (numR b u).2.2)] := by
  have c1 := refRead_spec (b.drop u) (by rw [List.length_drop]; omega)
  have hl := rdS_le (b.drop u)
  rw [List.length_drop] at hl
  have hd1 : (b.map byteAV).drop u = (b.drop u).map byteAV := by rw [List.map_drop]
  unfold numR
  generalize rdS (b.drop u) = R at *
  obtain ⟨n, q, e⟩ := R
  simp only [rdAV] at *
  generalize b.drop u = t at *
  have c2 := RFail0 b u e d
  simp only [RdBox] at *
  refine ACall.of_body mixed Tryd.func77 rfl (by kernel_rfl) Tryd.ntmps77 (by kernel_rfl) rfl (by simp) (by simp) (by simp) fun σ N hp hpn hk hkn hfree => ?_
  have hd := hp _ (List.mem_singleton.2 rfl); have hdn := hpn _ (List.mem_singleton.2 rfl); simp only at hd hdn; clear hp hpn
  have hcs := And.intro c1 (And.intro c2 True.intro)
  clear c1 c2
  refine Wk ?_
  refine go_resultW [(d, .box 107 (.agg [.slice none (b.map byteAV), .lit (.int .i64 ((u : Int) + (q : Int))), .lit (.int .i64 (e : Int))]))] (by simp (disch := omega) [go_sem, *, -List.reduceReplicate]; rfl) (by first | rfl | (simp (disch := omega) [go_sem]; done) | (simp (disch := omega) [go_sem, *]; done) | simp (disch := omega) [go_sem]) (fun id hid => by simp only [wr_cons, wr_nil]; try (by_cases hdd : id = d; (· (subst hdd; simp (disch := omega) [go_sem, *])); (· (simp (disch := omega) only [upd_ne]; try (first | exact hlow id hid hdd | exact hlow id hid))))) (by simp) (by simp (disch := omega) [go_sem, *])
theorem RNum_off (b : List UInt8) (u e : Nat) (he : e ≠ 0) (d k : Nat) :
    ACall Tryd.prog 77 [.ptr d [] 0] k [(d, RdBox b u e)] (.lit (.int .i64 0)) [(d, RdBox b u e)] := by
  have he' : ((e : Int) == 0) = false := by rw [beq_eq_false_iff_ne]; omega
  simp only [RdBox]
  refine ACall.of_body mixed Tryd.func77 rfl (by kernel_rfl) Tryd.ntmps77 (by kernel_rfl) rfl (by simp) (by simp) (by simp) fun σ N hp hpn hk hkn hfree => ?_
  have hd := hp _ (List.mem_singleton.2 rfl); have hdn := hpn _ (List.mem_singleton.2 rfl); simp only at hd hdn; clear hp hpn
  refine Wk ?_
  refine go_resultW [(d, .box 107 (.agg [.slice none (b.map byteAV), .lit (.int .i64 (u : Int)), .lit (.int .i64 (e : Int))]))] (by simp (disch := omega) [go_sem, *, -List.reduceReplicate]; rfl) (by first | rfl | (simp (disch := omega) [go_sem]; done) | (simp (disch := omega) [go_sem, *]; done) | simp (disch := omega) [go_sem]) (fun id hid => by simp only [wr_cons, wr_nil]; try (by_cases hdd : id = d; (· (subst hdd; simp (disch := omega) [go_sem, *])); (· (simp (disch := omega) only [upd_ne]; try (first | exact hlow id hid hdd | exact hlow id hid))))) (by simp) (by simp (disch := omega) [go_sem, *])
theorem rdF_len (b : List UInt8) : (rdF b).1.length ≤ 1024 := by
  unfold rdF
  split
  · simp
  split
  · simp
  split
  · simp
  · simp only [List.length_take]; omega
theorem RField_spec (b : List UInt8) (u : Nat) (hu : u ≤ b.length) (hb : b.length ≤ 1000000) (d k : Nat) :
    ACall Tryd.prog 79 [.ptr d [] 0] k [(d, RdBox b u 0)] (.slice none ((fldR b u).1.map byteAV)) [(d, RdBox b (fldR b u).2.1 (fldR b u).2.2)] := by
  have c1 := refReadField_spec (b.drop u) (by rw [List.length_drop]; omega)
  have hl := rdF_le (b.drop u)
  have hl2 := rdF_len (b.drop u)
  rw [List.length_drop] at hl
  have hd1 : (b.map byteAV).drop u = (b.drop u).map byteAV := by rw [List.map_drop]
  unfold fldR
  generalize rdF (b.drop u) = R at *
  obtain ⟨n, q, e⟩ := R
  simp only [rdFAV] at *
  generalize b.drop u = t at *
  have c2 := RFail0 b u e d
  simp only [RdBox] at *
  refine ACall.of_body mixed Tryd.func79 rfl (by kernel_rfl) Tryd.ntmps79 (by kernel_rfl) rfl (by simp) (by simp) (by simp) fun σ N hp hpn hk hkn hfree => ?_
  have hd := hp _ (List.mem_singleton.2 rfl); have hdn := hpn _ (List.mem_singleton.2 rfl); simp only at hd hdn; clear hp hpn
  have hcs := And.intro c1 (And.intro c2 True.intro)
  clear c1 c2
  refine Wk ?_
  refine go_resultWI [(d, .box 107 (.agg [.slice none (b.map byteAV), .lit (.int .i64 ((u : Int) + (q : Int))), .lit (.int .i64 (e : Int))]))] (by simp (disch := omega) [go_sem, *, -List.reduceReplicate]; rfl) (by first | exact AV.le_refl _ | ((first | apply AV.le_slices | apply AV.le_nilsE | apply AV.le_clipE); first | rfl | (simp (disch := omega) [go_sem, *, -List.reduceReplicate]; done)) | (apply AV.sub_tup; repeat' first | exact ALe.nil | exact AV.le_refl _ | apply ALe.cons | ((first | apply AV.le_slices | apply AV.le_nilsE | apply AV.le_clipE); first | rfl | (simp (disch := omega) [go_sem, *, -List.reduceReplicate]; done)))) (by first | rfl | (simp (disch := omega) [go_sem]; done) | (simp (disch := omega) [go_sem, *]; done) | simp (disch := omega) [go_sem]) (fun id hid => by simp only [wr_cons, wr_nil]; try (by_cases hdd : id = d; (· (subst hdd; simp (disch := omega) [go_sem, *])); (· (simp (disch := omega) only [upd_ne]; try (first | exact hlow id hid hdd | exact hlow id hid))))) (by simp) (by simp (disch := omega) [go_sem, *])
theorem RField_off (b : List UInt8) (u e : Nat) (he : e ≠ 0) (d k : Nat) :
    ACall Tryd.prog 79 [.ptr d [] 0] k [(d, RdBox b u e)] (.slice none []) [(d, RdBox b u e)] := by
  have he' : ((e : Int) == 0) = false := by rw [beq_eq_false_iff_ne]; omega
  simp only [RdBox]
  refine ACall.of_body mixed Tryd.func79 rfl (by kernel_rfl) Tryd.ntmps79 (by kernel_rfl) rfl (by simp) (by simp) (by simp) fun σ N hp hpn hk hkn hfree => ?_
  have hd := hp _ (List.mem_singleton.2 rfl); have hdn := hpn _ (List.mem_singleton.2 rfl); simp only at hd hdn; clear hp hpn
  refine Wk ?_
  refine go_resultWI [(d, .box 107 (.agg [.slice none (b.map byteAV), .lit (.int .i64 (u : Int)), .lit (.int .i64 (e : Int))]))] (by simp (disch := omega) [go_sem, *, -List.reduceReplicate]; rfl) (by first | exact AV.le_refl _ | ((first | apply AV.le_slices | apply AV.le_nilsE | apply AV.le_clipE); first | rfl | (simp (disch := omega) [go_sem, *, -List.reduceReplicate]; done)) | (apply AV.sub_tup; repeat' first | exact ALe.nil | exact AV.le_refl _ | apply ALe.cons | ((first | apply AV.le_slices | apply AV.le_nilsE | apply AV.le_clipE); first | rfl | (simp (disch := omega) [go_sem, *, -List.reduceReplicate]; done)))) (by first | rfl | (simp (disch := omega) [go_sem]; done) | (simp (disch := omega) [go_sem, *]; done) | simp (disch := omega) [go_sem]) (fun id hid => by simp only [wr_cons, wr_nil]; try (by_cases hdd : id = d; (· (subst hdd; simp (disch := omega) [go_sem, *])); (· (simp (disch := omega) only [upd_ne]; try (first | exact hlow id hid hdd | exact hlow id hid))))) (by simp) (by simp (disch := omega) [go_sem, *])
theorem RBytes_short (b : List UInt8) (u : Nat) (hu : u ≤ b.length) (hs : b.length - u < 8) (hb : b.length ≤ 1000000) (d k : Nat) :
    ACall Tryd.prog 112 [.ptr d [] 0, .lit (.int .i64 8)] k [(d, RdBox b u 0)] (.slice none ((List.replicate 8 (0 : UInt8)).map byteAV)) [(d, RdBox b u 3)] := by
  have hs' : (b.length : Int) - (u : Int) < 8 := by omega
  have hz : (List.replicate 8 (0 : UInt8)).map byteAV = [byteAV 0, byteAV 0, byteAV 0, byteAV 0, byteAV 0, byteAV 0, byteAV 0, byteAV 0] := rfl
  have hz0 : byteAV 0 = .lit (.int .u8 0) := rfl
  rw [hz]
  simp only [RdBox]
  refine ACall.of_body mixed Tryd.func112 rfl (by kernel_rfl) Tryd.ntmps112 (by kernel_rfl) rfl (by simp) (by simp) (by simp) fun σ N hp hpn hk hkn hfree => ?_
  have hd := hp _ (List.mem_singleton.2 rfl); have hdn := hpn _ (List.mem_singleton.2 rfl); simp only at hd hdn; clear hp hpn
  refine Wk ?_
  refine go_resultWI [(d, .box 107 (.agg [.slice none (b.map byteAV), .lit (.int .i64 (u : Int)), .lit (.int .i64 3)]))] (by simp (disch := omega) [go_sem, *, -List.reduceReplicate]; rfl) (by first | exact AV.le_refl _ | ((first | apply AV.le_slices | apply AV.le_nilsE | apply AV.le_clipE); first | rfl | (simp (disch := omega) [go_sem, *, -List.reduceReplicate]; done)) | (apply AV.sub_tup; repeat' first | exact ALe.nil | exact AV.le_refl _ | apply ALe.cons | ((first | apply AV.le_slices | apply AV.le_nilsE | apply AV.le_clipE); first | rfl | (simp (disch := omega) [go_sem, *, -List.reduceReplicate]; done)))) (by first | rfl | (simp (disch := omega) [go_sem]; done) | (simp (disch := omega) [go_sem, *]; done) | simp (disch := omega) [go_sem]) (fun id hid => by simp only [wr_cons, wr_nil]; try (by_cases hdd : id = d; (· (subst hdd; simp (disch := omega) [go_sem, *])); (· (simp (disch := omega) only [upd_ne]; try (first | exact hlow id hid hdd | exact hlow id hid))))) (by simp) (by simp (disch := omega) [go_sem, *])
theorem RBytes_off (b : List UInt8) (u e : Nat) (he : e ≠ 0) (hb : b.length ≤ 1000000) (d k : Nat) :
    ACall Tryd.prog 112 [.ptr d [] 0, .lit (.int .i64 8)] k [(d, RdBox b u e)] (.slice none ((List.replicate 8 (0 : UInt8)).map byteAV)) [(d, RdBox b u e)] := by
  have he' : ((e : Int) == 0) = false := by rw [beq_eq_false_iff_ne]; omega
  have hz : (List.replicate 8 (0 : UInt8)).map byteAV = [byteAV 0, byteAV 0, byteAV 0, byteAV 0, byteAV 0, byteAV 0, byteAV 0, byteAV 0] := rfl
  have hz0 : byteAV 0 = .lit (.int .u8 0) := rfl
  rw [hz]
  simp only [RdBox]
  refine ACall.of_body mixed Tryd.func112 rfl (by kernel_rfl) Tryd.ntmps112 (by kernel_rfl) rfl (by simp) (by simp) (by simp) fun σ N hp hpn hk hkn hfree => ?_
  have hd := hp _ (List.mem_singleton.2 rfl); have hdn := hpn _ (List.mem_singleton.2 rfl); simp only at hd hdn; clear hp hpn
  refine Wk ?_
  refine go_resultWI [(d, .box 107 (.agg [.slice none (b.map byteAV), .lit (.int .i64 (u : Int)), .lit (.int .i64 (e : Int))]))] (by simp (disch := omega) [go_sem, *, -List.reduceReplicate]; rfl) (by first | exact AV.le_refl _ | ((first | apply AV.le_slices | apply AV.le_nilsE | apply AV.le_clipE); first | rfl | (simp (disch := omega) [go_sem, *, -List.reduceReplicate]; done)) | (apply AV.sub_tup; repeat' first | exact ALe.nil | exact AV.le_refl _ | apply ALe.cons | ((first | apply AV.le_slices | apply AV.le_nilsE | apply AV.le_clipE); first | rfl | (simp (disch := omega) [go_sem, *, -List.reduceReplicate]; done)))) (by first | rfl | (simp (disch := omega) [go_sem]; done) | (simp (disch := omega) [go_sem, *]; done) | simp (disch := omega) [go_sem]) (fun id hid => by simp only [wr_cons, wr_nil]; try (by_cases hdd : id = d; (· (subst hdd; simp (disch := omega) [go_sem, *])); (· (simp (disch := omega) only [upd_ne]; try (first | exact hlow id hid hdd | exact hlow id hid))))) (by simp) (by simp (disch := omega) [go_sem, *])
theorem RBytes_spec (b : List UInt8) (u : Nat) (hs : u + 8 ≤ b.length) (hb : b.length ≤ 1000000) (d k : Nat) :
    ACall Tryd.prog 112 [.ptr d [] 0, .lit (.int .i64 8)] k [(d, RdBox b u 0)] (.slice none (((b.drop u).take 8).map byteAV)) [(d, RdBox b (u + 8) 0)] := by
  have hs' : ¬ (b.length : Int) - (u : Int) < 8 := by omega
  have hsl := take_drop_bytes b u 8
  have hu8 : ((u : Int) + 8).toNat = u + 8 := by omega
  generalize (b.drop u).take 8 = L at *
  simp only [RdBox]
  refine ACall.of_body mixed Tryd.func112 rfl (by kernel_rfl) Tryd.ntmps112 (by kernel_rfl) rfl (by simp) (by simp) (by simp) fun σ N hp hpn hk hkn hfree => ?_
  have hd := hp _ (List.mem_singleton.2 rfl); have hdn := hpn _ (List.mem_singleton.2 rfl); simp only at hd hdn; clear hp hpn
  refine Wk ?_
  refine go_resultWI [(d, .box 107 (.agg [.slice none (b.map byteAV), .lit (.int .i64 ((u : Int) + 8)), .lit (.int .i64 0)]))] (by simp (disch := omega) [go_sem, *, -List.reduceReplicate]; rfl) (by first | exact AV.le_refl _ | ((first | apply AV.le_slices | apply AV.le_nilsE | apply AV.le_clipE); first | rfl | (simp (disch := omega) [go_sem, *, -List.reduceReplicate]; done)) | (apply AV.sub_tup; repeat' first | exact ALe.nil | exact AV.le_refl _ | apply ALe.cons | ((first | apply AV.le_slices | apply AV.le_nilsE | apply AV.le_clipE); first | rfl | (simp (disch := omega) [go_sem, *, -List.reduceReplicate]; done)))) (by first | rfl | (simp (disch := omega) [go_sem]; done) | (simp (disch := omega) [go_sem, *]; done) | simp (disch := omega) [go_sem]) (fun id hid => by simp only [wr_cons, wr_nil]; try (by_cases hdd : id = d; (· (subst hdd; simp (disch := omega) [go_sem, *])); (· (simp (disch := omega) only [upd_ne]; try (first | exact hlow id hid hdd | exact hlow id hid))))) (by simp) (by simp (disch := omega) [go_sem, *])
end Go.Proofs.YtaelnglalpiemaaDoor

/- Predicates: Decode. -/
namespace Go.Proofs.YtaelnglalpiemaaDoor
open Go.Ab
attribute [local irreducible] Go.Ab.tyAV Go.Ab.aw Go.Ab.aops Go.Ab.kReg Go.Ab.aThen Go.Ab.aBlk Go.Ab.acond Go.Ab.aguard Go.Ab.astep Go.Ab.AStepX Go.Ab.aRet

attribute [go_sem] rdBox RdBox
def finP (p : Pr) (u : Nat) : Pr × Nat × Nat := if predB p = true then (p, u, 0) else (zeroPr, 0, 5)
/-- The predicate at the beginning of bytes, how many bytes it has, the error. -/
def decP (b : List UInt8) : Pr × Nat × Nat :=
  if (numR b 0).2.2 ≠ 0 then (zeroPr, 0, (numR b 0).2.2)
  else if (numR b 0).1 = 1 ∨ (numR b 0).1 = 2 ∨ (numR b 0).1 = 3 then
    if b.length - (numR b 0).2.1 < 8 then (zeroPr, 0, 3) else finP ⟨(numR b 0).1, be8 ((b.drop (numR b 0).2.1).take 8), 0, 0, [], 0⟩ ((numR b 0).2.1 + 8)
  else if (numR b 0).1 = 4 ∨ (numR b 0).1 = 5 then
    if (numR b (numR b 0).2.1).2.2 ≠ 0 then (zeroPr, 0, (numR b (numR b 0).2.1).2.2)
    else if (numR b (numR b (numR b 0).2.1).2.1).2.2 ≠ 0 then (zeroPr, 0, (numR b (numR b (numR b 0).2.1).2.1).2.2)
    else finP ⟨(numR b 0).1, 0, (numR b (numR b 0).2.1).1, (numR b (numR b (numR b 0).2.1).2.1).1, [], 0⟩ (numR b (numR b (numR b 0).2.1).2.1).2.1
  else if (numR b 0).1 = 6 then
    if (fldR b (numR b 0).2.1).2.2 ≠ 0 then (zeroPr, 0, (fldR b (numR b 0).2.1).2.2) else finP ⟨6, 0, 0, 0, (fldR b (numR b 0).2.1).1, 0⟩ (fldR b (numR b 0).2.1).2.1
  else if (numR b 0).1 = 7 then
    if (numR b (numR b 0).2.1).2.2 ≠ 0 then (zeroPr, 0, (numR b (numR b 0).2.1).2.2) else finP ⟨7, 0, 0, 0, [], (numR b (numR b 0).2.1).1⟩ (numR b (numR b 0).2.1).2.1
  else (zeroPr, 0, 6)
def decPAV (r : Pr × Nat × Nat) : AV := .tup [prAV r.1, .lit (.int .i64 r.2.1), .lit (.int .i64 r.2.2)]
theorem fldR_len (b : List UInt8) (u : Nat) : (fldR b u).1.length ≤ 1024 := rdF_len _
theorem numR_lt (b : List UInt8) (u : Nat) : (numR b u).1 ≤ 281474976710656 := by
  unfold numR
  rcases rdS_bad (b.drop u) with h | ⟨e, h, _⟩
  · exact (rdS_ok (b.drop u) (n := (rdS (b.drop u)).1) (u := (rdS (b.drop u)).2.1) (by rw [← h])).1
  · rw [h]; simp

set_option maxHeartbeats 8000000 in
theorem pDec_spec (b : List UInt8) (hb : b.length ≤ 1000000) (d k : Nat) : ACall Tryd.prog 100 [.slice none (b.map byteAV)] k [(d, bitsG)] (decPAV (decP b)) [] := by
  have c1 := rnum_spec b 0 (Nat.zero_le _) hb
  have hu1 := numR_le (b := b) (u := 0) (Nat.zero_le _)
  have hl1 := numR_lt b 0
  unfold decP
  generalize numR b 0 = R at *
  obtain ⟨kn, u, e⟩ := R
  simp only at c1 hu1 hl1 ⊢
  by_cases he : e ≠ 0
  · rw [if_pos he]
    have he' : ((e : Int) == 0) = false := by rw [beq_eq_false_iff_ne]; omega
    have he'' : ((e : Int) != 0) = true := by rw [bne, he']; rfl
    simp only [decPAV, prAV, zeroPr]
    clear he
    refine ACall.of_body mixed Tryd.func100 rfl (by kernel_rfl) Tryd.ntmps100 (by kernel_rfl) rfl (by simp) (by simp) (by simp) fun σ N hp hpn hk hkn hfree => ?_
    have hd := hp _ (List.mem_singleton.2 rfl); have hdn := hpn _ (List.mem_singleton.2 rfl); simp only at hd hdn; clear hp hpn
    have hcs := And.intro (c1 (N + 5)) True.intro
    clear c1
    exact WL
  have he0 : e = 0 := by omega
  subst he0
  rw [if_neg (by omega)]
  clear he
  by_cases hk : kn = 1 ∨ kn = 2 ∨ kn = 3
  · rw [if_pos hk]
    by_cases hs : b.length - u < 8
    · rw [if_pos hs]
      have c2 := rmask_short b u hu1 hb hs
      simp only [decPAV, prAV, zeroPr]
      rcases hk with rfl | rfl | rfl
      all_goals (
        refine ACall.of_body mixed Tryd.func100 rfl (by kernel_rfl) Tryd.ntmps100 (by kernel_rfl) rfl (by simp) (by simp) (by simp) fun σ N hp hpn hk hkn hfree => ?_
        have hd := hp _ (List.mem_singleton.2 rfl); have hdn := hpn _ (List.mem_singleton.2 rfl); simp only at hd hdn; clear hp hpn
        have hcs := And.intro (c1 (N + 5)) (And.intro (c2 (N + 5)) True.intro)
        clear c1 c2
        exact WL)
    · rw [if_neg hs]
      have c2 := rmask_spec b u hb (by omega)
      have hm : be8 ((b.drop u).take 8) < 18446744073709551616 := by
        have := be8_bound (L := (b.drop u).take 8) (i := 8) (by rw [List.length_take, List.length_drop]; omega) (Nat.le_refl _)
        rw [List.take_of_length_le (i := 8) (l := (b.drop u).take 8) (by rw [List.length_take]; omega)] at this
        exact this.1
      generalize be8 ((b.drop u).take 8) = m at *
      have c3 := predValid_spec ⟨kn, m, 0, 0, [], 0⟩ ⟨by simp only; omega, by simp only; omega, by simp⟩ d
      unfold finP
      cases hv : predB ⟨kn, m, 0, 0, [], 0⟩ with
      | false =>
        rw [hv] at c3
        simp only [decPAV, prAV, zeroPr, Bool.false_eq_true, if_false] at *
        rcases hk with rfl | rfl | rfl
        all_goals (
          refine ACall.of_body mixed Tryd.func100 rfl (by kernel_rfl) Tryd.ntmps100 (by kernel_rfl) rfl (by simp) (by simp) (by simp) fun σ N hp hpn hk hkn hfree => ?_
          have hd := hp _ (List.mem_singleton.2 rfl); have hdn := hpn _ (List.mem_singleton.2 rfl); simp only at hd hdn; clear hp hpn
          have hcs := And.intro (c1 (N + 5)) (And.intro (c2 (N + 5)) (And.intro c3 True.intro))
          clear c1 c2 c3
          exact WL)
      | true =>
        rw [hv] at c3
        simp only [decPAV, prAV, if_true] at *
        rcases hk with rfl | rfl | rfl
        all_goals (
          refine ACall.of_body mixed Tryd.func100 rfl (by kernel_rfl) Tryd.ntmps100 (by kernel_rfl) rfl (by simp) (by simp) (by simp) fun σ N hp hpn hk hkn hfree => ?_
          have hd := hp _ (List.mem_singleton.2 rfl); have hdn := hpn _ (List.mem_singleton.2 rfl); simp only at hd hdn; clear hp hpn
          have hcs := And.intro (c1 (N + 5)) (And.intro (c2 (N + 5)) (And.intro c3 True.intro))
          clear c1 c2 c3
          exact WL)
  rw [if_neg hk]
  have n1 : ((kn : Int) == 1) = false := by rw [beq_eq_false_iff_ne]; omega
  have n2 : ((kn : Int) == 2) = false := by rw [beq_eq_false_iff_ne]; omega
  have n3 : ((kn : Int) == 3) = false := by rw [beq_eq_false_iff_ne]; omega
  clear hk
  by_cases hk : kn = 4 ∨ kn = 5
  · rw [if_pos hk]
    have c2 := rnum_spec b u hu1 hb
    have hu2 := numR_le (b := b) (u := u) hu1
    have hl2 := numR_lt b u
    generalize numR b u = R at *
    obtain ⟨f, u2, e2⟩ := R
    simp only at c2 hu2 hl2 ⊢
    by_cases he2 : e2 ≠ 0
    · rw [if_pos he2]
      have c3 := rnum_off b u2 e2 he2
      have he' : ((e2 : Int) == 0) = false := by rw [beq_eq_false_iff_ne]; omega
      have he'' : ((e2 : Int) != 0) = true := by rw [bne, he']; rfl
      simp only [decPAV, prAV, zeroPr]
      clear he2
      rcases hk with rfl | rfl
      all_goals (
        refine ACall.of_body mixed Tryd.func100 rfl (by kernel_rfl) Tryd.ntmps100 (by kernel_rfl) rfl (by simp) (by simp) (by simp) fun σ N hp hpn hk hkn hfree => ?_
        have hd := hp _ (List.mem_singleton.2 rfl); have hdn := hpn _ (List.mem_singleton.2 rfl); simp only at hd hdn; clear hp hpn
        have hcs := And.intro (c1 (N + 5)) (And.intro (c2 (N + 5)) (And.intro (c3 (N + 5)) True.intro))
        clear c1 c2 c3
        exact WL)
    have he0 : e2 = 0 := by omega
    subst he0
    rw [if_neg (by omega)]
    clear he2
    have c3 := rnum_spec b u2 hu2 hb
    have hu3 := numR_le (b := b) (u := u2) hu2
    have hl3 := numR_lt b u2
    generalize numR b u2 = R at *
    obtain ⟨t, u3, e3⟩ := R
    simp only at c3 hu3 hl3 ⊢
    by_cases he3 : e3 ≠ 0
    · rw [if_pos he3]
      have he' : ((e3 : Int) == 0) = false := by rw [beq_eq_false_iff_ne]; omega
      have he'' : ((e3 : Int) != 0) = true := by rw [bne, he']; rfl
      simp only [decPAV, prAV, zeroPr]
      clear he3
      rcases hk with rfl | rfl
      all_goals (
        refine ACall.of_body mixed Tryd.func100 rfl (by kernel_rfl) Tryd.ntmps100 (by kernel_rfl) rfl (by simp) (by simp) (by simp) fun σ N hp hpn hk hkn hfree => ?_
        have hd := hp _ (List.mem_singleton.2 rfl); have hdn := hpn _ (List.mem_singleton.2 rfl); simp only at hd hdn; clear hp hpn
        have hcs := And.intro (c1 (N + 5)) (And.intro (c2 (N + 5)) (And.intro (c3 (N + 5)) True.intro))
        clear c1 c2 c3
        exact WL)
    have he0 : e3 = 0 := by omega
    subst he0
    rw [if_neg (by omega)]
    clear he3
    have c4 := predValid_spec ⟨kn, 0, f, t, [], 0⟩ ⟨by simp, by simp, by simp⟩ d
    unfold finP
    cases hv : predB ⟨kn, 0, f, t, [], 0⟩ with
    | false =>
      rw [hv] at c4
      simp only [decPAV, prAV, zeroPr, Bool.false_eq_true, if_false] at *
      rcases hk with rfl | rfl
      all_goals (
        refine ACall.of_body mixed Tryd.func100 rfl (by kernel_rfl) Tryd.ntmps100 (by kernel_rfl) rfl (by simp) (by simp) (by simp) fun σ N hp hpn hk hkn hfree => ?_
        have hd := hp _ (List.mem_singleton.2 rfl); have hdn := hpn _ (List.mem_singleton.2 rfl); simp only at hd hdn; clear hp hpn
        have hcs := And.intro (c1 (N + 5)) (And.intro (c2 (N + 5)) (And.intro (c3 (N + 5)) (And.intro c4 True.intro)))
        clear c1 c2 c3 c4
        exact WL)
    | true =>
      rw [hv] at c4
      simp only [decPAV, prAV, if_true] at *
      rcases hk with rfl | rfl
      all_goals (
        refine ACall.of_body mixed Tryd.func100 rfl (by kernel_rfl) Tryd.ntmps100 (by kernel_rfl) rfl (by simp) (by simp) (by simp) fun σ N hp hpn hk hkn hfree => ?_
        have hd := hp _ (List.mem_singleton.2 rfl); have hdn := hpn _ (List.mem_singleton.2 rfl); simp only at hd hdn; clear hp hpn
        have hcs := And.intro (c1 (N + 5)) (And.intro (c2 (N + 5)) (And.intro (c3 (N + 5)) (And.intro c4 True.intro)))
        clear c1 c2 c3 c4
        exact WL)
  rw [if_neg hk]
  have n4 : ((kn : Int) == 4) = false := by rw [beq_eq_false_iff_ne]; omega
  have n5 : ((kn : Int) == 5) = false := by rw [beq_eq_false_iff_ne]; omega
  clear hk
  by_cases hk : kn = 6
  · subst hk
    rw [if_pos rfl]
    have c2 := rname_spec b u hu1 hb
    have hu2 := fldR_le (b := b) (u := u) hu1
    have hl2 := fldR_len b u
    generalize fldR b u = R at *
    obtain ⟨f, u2, e2⟩ := R
    simp only at c2 hu2 hl2 ⊢
    by_cases he2 : e2 ≠ 0
    · rw [if_pos he2]
      have he' : ((e2 : Int) == 0) = false := by rw [beq_eq_false_iff_ne]; omega
      have he'' : ((e2 : Int) != 0) = true := by rw [bne, he']; rfl
      simp only [decPAV, prAV, zeroPr]
      clear he2
      refine ACall.of_body mixed Tryd.func100 rfl (by kernel_rfl) Tryd.ntmps100 (by kernel_rfl) rfl (by simp) (by simp) (by simp) fun σ N hp hpn hk hkn hfree => ?_
      have hd := hp _ (List.mem_singleton.2 rfl); have hdn := hpn _ (List.mem_singleton.2 rfl); simp only at hd hdn; clear hp hpn
      have hcs := And.intro (c1 (N + 5)) (And.intro (c2 (N + 5)) True.intro)
      clear c1 c2
      exact WL
    have he0 : e2 = 0 := by omega
    subst he0
    rw [if_neg (by omega)]
    clear he2
    have c4 := predValid_spec ⟨6, 0, 0, 0, f, 0⟩ ⟨by simp, by simp, by simp only; omega⟩ d
    unfold finP
    cases hv : predB ⟨6, 0, 0, 0, f, 0⟩ with
    | false =>
      rw [hv] at c4
      simp only [decPAV, prAV, zeroPr, Bool.false_eq_true, if_false] at *
      refine ACall.of_body mixed Tryd.func100 rfl (by kernel_rfl) Tryd.ntmps100 (by kernel_rfl) rfl (by simp) (by simp) (by simp) fun σ N hp hpn hk hkn hfree => ?_
      have hd := hp _ (List.mem_singleton.2 rfl); have hdn := hpn _ (List.mem_singleton.2 rfl); simp only at hd hdn; clear hp hpn
      have hcs := And.intro (c1 (N + 5)) (And.intro (c2 (N + 5)) (And.intro c4 True.intro))
      clear c1 c2 c4
      exact WL
    | true =>
      rw [hv] at c4
      simp only [decPAV, prAV, if_true] at *
      refine ACall.of_body mixed Tryd.func100 rfl (by kernel_rfl) Tryd.ntmps100 (by kernel_rfl) rfl (by simp) (by simp) (by simp) fun σ N hp hpn hk hkn hfree => ?_
      have hd := hp _ (List.mem_singleton.2 rfl); have hdn := hpn _ (List.mem_singleton.2 rfl); simp only at hd hdn; clear hp hpn
      have hcs := And.intro (c1 (N + 5)) (And.intro (c2 (N + 5)) (And.intro c4 True.intro))
      clear c1 c2 c4
      exact WL
  rw [if_neg hk]
  have n6 : ((kn : Int) == 6) = false := by rw [beq_eq_false_iff_ne]; omega
  clear hk
  by_cases hk : kn = 7
  · subst hk
    rw [if_pos rfl]
    have c2 := rnum_spec b u hu1 hb
    have hu2 := numR_le (b := b) (u := u) hu1
    have hl2 := numR_lt b u
    generalize numR b u = R at *
    obtain ⟨f, u2, e2⟩ := R
    simp only at c2 hu2 hl2 ⊢
    by_cases he2 : e2 ≠ 0
    · rw [if_pos he2]
      have he' : ((e2 : Int) == 0) = false := by rw [beq_eq_false_iff_ne]; omega
      have he'' : ((e2 : Int) != 0) = true := by rw [bne, he']; rfl
      simp only [decPAV, prAV, zeroPr]
      clear he2
      refine ACall.of_body mixed Tryd.func100 rfl (by kernel_rfl) Tryd.ntmps100 (by kernel_rfl) rfl (by simp) (by simp) (by simp) fun σ N hp hpn hk hkn hfree => ?_
      have hd := hp _ (List.mem_singleton.2 rfl); have hdn := hpn _ (List.mem_singleton.2 rfl); simp only at hd hdn; clear hp hpn
      have hcs := And.intro (c1 (N + 5)) (And.intro (c2 (N + 5)) True.intro)
      clear c1 c2
      exact WL
    have he0 : e2 = 0 := by omega
    subst he0
    rw [if_neg (by omega)]
    clear he2
    have c4 := predValid_spec ⟨7, 0, 0, 0, [], f⟩ ⟨by simp, by simp, by simp⟩ d
    unfold finP
    cases hv : predB ⟨7, 0, 0, 0, [], f⟩ with
    | false =>
      rw [hv] at c4
      simp only [decPAV, prAV, zeroPr, Bool.false_eq_true, if_false] at *
      refine ACall.of_body mixed Tryd.func100 rfl (by kernel_rfl) Tryd.ntmps100 (by kernel_rfl) rfl (by simp) (by simp) (by simp) fun σ N hp hpn hk hkn hfree => ?_
      have hd := hp _ (List.mem_singleton.2 rfl); have hdn := hpn _ (List.mem_singleton.2 rfl); simp only at hd hdn; clear hp hpn
      have hcs := And.intro (c1 (N + 5)) (And.intro (c2 (N + 5)) (And.intro c4 True.intro))
      clear c1 c2 c4
      exact WL
    | true =>
      rw [hv] at c4
      simp only [decPAV, prAV, if_true] at *
      refine ACall.of_body mixed Tryd.func100 rfl (by kernel_rfl) Tryd.ntmps100 (by kernel_rfl) rfl (by simp) (by simp) (by simp) fun σ N hp hpn hk hkn hfree => ?_
      have hd := hp _ (List.mem_singleton.2 rfl); have hdn := hpn _ (List.mem_singleton.2 rfl); simp only at hd hdn; clear hp hpn
      have hcs := And.intro (c1 (N + 5)) (And.intro (c2 (N + 5)) (And.intro c4 True.intro))
      clear c1 c2 c4
      exact WL
  rw [if_neg hk]
  have n7 : ((kn : Int) == 7) = false := by rw [beq_eq_false_iff_ne]; omega
  clear hk
  simp only [decPAV, prAV, zeroPr]
  refine ACall.of_body mixed Tryd.func100 rfl (by kernel_rfl) Tryd.ntmps100 (by kernel_rfl) rfl (by simp) (by simp) (by simp) fun σ N hp hpn hk hkn hfree => ?_
  have hd := hp _ (List.mem_singleton.2 rfl); have hdn := hpn _ (List.mem_singleton.2 rfl); simp only at hd hdn; clear hp hpn
  have hcs := And.intro (c1 (N + 5)) True.intro
  clear c1
  exact WL
end Go.Proofs.YtaelnglalpiemaaDoor

/- Predicates: the specified Decode. -/
namespace Go.Proofs.YtaelnglalpiemaaDoor
open Go.Ab
attribute [local irreducible] Go.Ab.tyAV Go.Ab.aw Go.Ab.aops Go.Ab.kReg Go.Ab.aThen Go.Ab.aBlk Go.Ab.acond Go.Ab.aguard Go.Ab.astep Go.Ab.AStepX Go.Ab.aRet

theorem numR_bad {b : List UInt8} {u : Nat} (h : (numR b u).2.2 ≠ 0) : (numR b u).1 = 0 := by
  unfold numR at h ⊢
  rcases rdS_bad (b.drop u) with h' | ⟨e, h', _⟩
  · exact absurd h' h
  · rw [h']
theorem rdF_bad {b : List UInt8} (h : (rdF b).2.2 ≠ 0) : (rdF b).1 = [] := by
  unfold rdF at h ⊢
  split at h
  · rename_i h1; rw [if_pos h1]
  · rename_i h1
    rw [if_neg h1]
    split at h
    · rename_i h2; rw [if_pos h2]
    · rename_i h2
      rw [if_neg h2]
      split at h
      · rename_i h3; rw [if_pos h3]
      · simp at h
theorem fldR_bad {b : List UInt8} {u : Nat} (h : (fldR b u).2.2 ≠ 0) : (fldR b u).1 = [] := rdF_bad h
set_option maxHeartbeats 8000000 in
theorem rDec_other (b : List UInt8) (hb : b.length ≤ 1000000) (kn u e : Nat) (hR : numR b 0 = (kn, u, e)) (hu1 : u ≤ b.length) (hk : ¬ (kn = 1 ∨ kn = 2 ∨ kn = 3)) (k : Nat) : ACall Tryd.prog 103 [.slice none (b.map byteAV)] k [] (decPAV (decP b)) [] := by
  have c1 := RNum_spec b 0 (Nat.zero_le _) hb
  have hbad := numR_bad (b := b) (u := 0)
  unfold decP
  rw [hR] at *
  simp only at c1 hbad ⊢
  clear hR
  rw [if_neg hk]
  have n1 : ((kn : Int) == 1) = false := by rw [beq_eq_false_iff_ne]; omega
  have n2 : ((kn : Int) == 2) = false := by rw [beq_eq_false_iff_ne]; omega
  have n3 : ((kn : Int) == 3) = false := by rw [beq_eq_false_iff_ne]; omega
  clear hk
  by_cases he : e ≠ 0
  · rw [if_pos he]
    obtain rfl := hbad he
    clear hbad
    have c2 := RFail1 b u e he 6
    have c3 := refPred_spec ⟨0, 0, 0, 0, [], 0⟩ ⟨by decide, by decide, by decide⟩
    rw [show predB ⟨0, 0, 0, 0, [], 0⟩ = false from by decide] at c3
    have c4 := RFail1 b u e he 5
    have he' : ((e : Int) == 0) = false := by rw [beq_eq_false_iff_ne]; omega
    have he'' : ((e : Int) != 0) = true := by rw [bne, he']; rfl
    simp only [decPAV, prAV, zeroPr] at *
    clear he
    refine ACall.of_body mixed Tryd.func103 rfl (by kernel_rfl) Tryd.ntmps103 (by kernel_rfl) rfl (by simp) (by simp) (by simp) fun σ N hp hpn hk hkn hfree => ?_
    have hcs := And.intro (c1 (N + 5)) (And.intro (c2 (N + 5)) (And.intro c3 (And.intro (c4 (N + 5)) True.intro)))
    clear c1 c2 c3 c4
    exact WL
  have he0 : e = 0 := by omega
  subst he0
  rw [if_neg (by omega)]
  clear he hbad
  by_cases hk : kn = 4 ∨ kn = 5
  · rw [if_pos hk]
    have c2 := RNum_spec b u hu1 hb
    have hu2 := numR_le (b := b) (u := u) hu1
    have hbad := numR_bad (b := b) (u := u)
    generalize numR b u = R at *
    obtain ⟨f, u2, e2⟩ := R
    simp only at c2 hu2 hbad ⊢
    by_cases he2 : e2 ≠ 0
    · rw [if_pos he2]
      obtain rfl := hbad he2
      clear hbad
      have c3 := RNum_off b u2 e2 he2
      have he' : ((e2 : Int) == 0) = false := by rw [beq_eq_false_iff_ne]; omega
      have he'' : ((e2 : Int) != 0) = true := by rw [bne, he']; rfl
      have c8 := refPred_spec ⟨kn, 0, 0, 0, [], 0⟩ ⟨by simp, by simp, by simp⟩
      cases hv : predB ⟨kn, 0, 0, 0, [], 0⟩ with
      | false =>
        rw [hv] at c8
        have c9 := RFail1 b u2 e2 (by omega) 5
        simp only [decPAV, prAV, zeroPr] at *
        rcases hk with rfl | rfl
        all_goals (
          refine ACall.of_body mixed Tryd.func103 rfl (by kernel_rfl) Tryd.ntmps103 (by kernel_rfl) rfl (by simp) (by simp) (by simp) fun σ N hp hpn hk hkn hfree => ?_
          have hcs := And.intro (c1 (N + 5)) (And.intro (c2 (N + 5)) (And.intro (c3 (N + 5)) (And.intro c8 (And.intro (c9 (N + 5)) True.intro))))
          clear c1 c2 c3 c8 c9
          exact WL)
      | true =>
        rw [hv] at c8
        simp only [decPAV, prAV, zeroPr] at *
        rcases hk with rfl | rfl
        all_goals (
          refine ACall.of_body mixed Tryd.func103 rfl (by kernel_rfl) Tryd.ntmps103 (by kernel_rfl) rfl (by simp) (by simp) (by simp) fun σ N hp hpn hk hkn hfree => ?_
          have hcs := And.intro (c1 (N + 5)) (And.intro (c2 (N + 5)) (And.intro (c3 (N + 5)) (And.intro c8 True.intro)))
          clear c1 c2 c3 c8
          exact WL)
    have he0 : e2 = 0 := by omega
    subst he0
    rw [if_neg (by omega)]
    clear he2 hbad
    have c3 := RNum_spec b u2 hu2 hb
    have hu3 := numR_le (b := b) (u := u2) hu2
    have hbad := numR_bad (b := b) (u := u2)
    generalize numR b u2 = R at *
    obtain ⟨t, u3, e3⟩ := R
    simp only at c3 hu3 hbad ⊢
    by_cases he3 : e3 ≠ 0
    · rw [if_pos he3]
      obtain rfl := hbad he3
      clear hbad
      have he' : ((e3 : Int) == 0) = false := by rw [beq_eq_false_iff_ne]; omega
      have he'' : ((e3 : Int) != 0) = true := by rw [bne, he']; rfl
      have c8 := refPred_spec ⟨kn, 0, f, 0, [], 0⟩ ⟨by simp, by simp, by simp⟩
      cases hv : predB ⟨kn, 0, f, 0, [], 0⟩ with
      | false =>
        rw [hv] at c8
        have c9 := RFail1 b u3 e3 (by omega) 5
        simp only [decPAV, prAV, zeroPr] at *
        rcases hk with rfl | rfl
        all_goals (
          refine ACall.of_body mixed Tryd.func103 rfl (by kernel_rfl) Tryd.ntmps103 (by kernel_rfl) rfl (by simp) (by simp) (by simp) fun σ N hp hpn hk hkn hfree => ?_
          have hcs := And.intro (c1 (N + 5)) (And.intro (c2 (N + 5)) (And.intro (c3 (N + 5)) (And.intro c8 (And.intro (c9 (N + 5)) True.intro))))
          clear c1 c2 c3 c8 c9
          exact WL)
      | true =>
        rw [hv] at c8
        simp only [decPAV, prAV, zeroPr] at *
        rcases hk with rfl | rfl
        all_goals (
          refine ACall.of_body mixed Tryd.func103 rfl (by kernel_rfl) Tryd.ntmps103 (by kernel_rfl) rfl (by simp) (by simp) (by simp) fun σ N hp hpn hk hkn hfree => ?_
          have hcs := And.intro (c1 (N + 5)) (And.intro (c2 (N + 5)) (And.intro (c3 (N + 5)) (And.intro c8 True.intro)))
          clear c1 c2 c3 c8
          exact WL)
    have he0 : e3 = 0 := by omega
    subst he0
    rw [if_neg (by omega)]
    clear he3 hbad
    have c8 := refPred_spec ⟨kn, 0, f, t, [], 0⟩ ⟨by simp, by simp, by simp⟩
    cases hv : predB ⟨kn, 0, f, t, [], 0⟩ with
    | false =>
      unfold finP
      rw [hv]
      rw [hv] at c8
      have c9 := RFail0 b u3 5
      simp only [decPAV, prAV, zeroPr, Bool.false_eq_true, if_false] at *
      rcases hk with rfl | rfl
      all_goals (
        refine ACall.of_body mixed Tryd.func103 rfl (by kernel_rfl) Tryd.ntmps103 (by kernel_rfl) rfl (by simp) (by simp) (by simp) fun σ N hp hpn hk hkn hfree => ?_
        have hcs := And.intro (c1 (N + 5)) (And.intro (c2 (N + 5)) (And.intro (c3 (N + 5)) (And.intro c8 (And.intro (c9 (N + 5)) True.intro))))
        clear c1 c2 c3 c8 c9
        exact WL)
    | true =>
      unfold finP
      rw [hv]
      rw [hv] at c8
      simp only [decPAV, prAV, zeroPr, if_true] at *
      rcases hk with rfl | rfl
      all_goals (
        refine ACall.of_body mixed Tryd.func103 rfl (by kernel_rfl) Tryd.ntmps103 (by kernel_rfl) rfl (by simp) (by simp) (by simp) fun σ N hp hpn hk hkn hfree => ?_
        have hcs := And.intro (c1 (N + 5)) (And.intro (c2 (N + 5)) (And.intro (c3 (N + 5)) (And.intro c8 True.intro)))
        clear c1 c2 c3 c8
        exact WL)
  rw [if_neg hk]
  have n4 : ((kn : Int) == 4) = false := by rw [beq_eq_false_iff_ne]; omega
  have n5 : ((kn : Int) == 5) = false := by rw [beq_eq_false_iff_ne]; omega
  clear hk
  by_cases hk : kn = 6
  · subst hk
    rw [if_pos rfl]
    have c2 := RField_spec b u hu1 hb
    have hu2 := fldR_le (b := b) (u := u) hu1
    have hl2 := fldR_len b u
    have hbad := fldR_bad (b := b) (u := u)
    generalize fldR b u = R at *
    obtain ⟨f, u2, e2⟩ := R
    simp only at c2 hu2 hl2 hbad ⊢
    by_cases he2 : e2 ≠ 0
    · rw [if_pos he2]
      obtain rfl := hbad he2
      clear hbad
      have he' : ((e2 : Int) == 0) = false := by rw [beq_eq_false_iff_ne]; omega
      have he'' : ((e2 : Int) != 0) = true := by rw [bne, he']; rfl
      have c8 := refPred_spec ⟨6, 0, 0, 0, [], 0⟩ ⟨by simp, by simp, by simp⟩
      cases hv : predB ⟨6, 0, 0, 0, [], 0⟩ with
      | false =>
        rw [hv] at c8
        have c9 := RFail1 b u2 e2 (by omega) 5
        simp only [decPAV, prAV, zeroPr] at *
        refine ACall.of_body mixed Tryd.func103 rfl (by kernel_rfl) Tryd.ntmps103 (by kernel_rfl) rfl (by simp) (by simp) (by simp) fun σ N hp hpn hk hkn hfree => ?_
        have hcs := And.intro (c1 (N + 5)) (And.intro (c2 (N + 5)) (And.intro c8 (And.intro (c9 (N + 5)) True.intro)))
        clear c1 c2 c8 c9
        exact WL
      | true =>
        rw [hv] at c8
        simp only [decPAV, prAV, zeroPr] at *
        refine ACall.of_body mixed Tryd.func103 rfl (by kernel_rfl) Tryd.ntmps103 (by kernel_rfl) rfl (by simp) (by simp) (by simp) fun σ N hp hpn hk hkn hfree => ?_
        have hcs := And.intro (c1 (N + 5)) (And.intro (c2 (N + 5)) (And.intro c8 True.intro))
        clear c1 c2 c8
        exact WL
    have he0 : e2 = 0 := by omega
    subst he0
    rw [if_neg (by omega)]
    clear he2 hbad
    have c8 := refPred_spec ⟨6, 0, 0, 0, f, 0⟩ ⟨by simp, by simp, by simp only; omega⟩
    cases hv : predB ⟨6, 0, 0, 0, f, 0⟩ with
    | false =>
      unfold finP
      rw [hv]
      rw [hv] at c8
      have c9 := RFail0 b u2 5
      simp only [decPAV, prAV, zeroPr, Bool.false_eq_true, if_false] at *
      refine ACall.of_body mixed Tryd.func103 rfl (by kernel_rfl) Tryd.ntmps103 (by kernel_rfl) rfl (by simp) (by simp) (by simp) fun σ N hp hpn hk hkn hfree => ?_
      have hcs := And.intro (c1 (N + 5)) (And.intro (c2 (N + 5)) (And.intro c8 (And.intro (c9 (N + 5)) True.intro)))
      clear c1 c2 c8 c9
      exact WL
    | true =>
      unfold finP
      rw [hv]
      rw [hv] at c8
      simp only [decPAV, prAV, zeroPr, if_true] at *
      refine ACall.of_body mixed Tryd.func103 rfl (by kernel_rfl) Tryd.ntmps103 (by kernel_rfl) rfl (by simp) (by simp) (by simp) fun σ N hp hpn hk hkn hfree => ?_
      have hcs := And.intro (c1 (N + 5)) (And.intro (c2 (N + 5)) (And.intro c8 True.intro))
      clear c1 c2 c8
      exact WL
  rw [if_neg hk]
  have n6 : ((kn : Int) == 6) = false := by rw [beq_eq_false_iff_ne]; omega
  clear hk
  by_cases hk : kn = 7
  · subst hk
    rw [if_pos rfl]
    have c2 := RNum_spec b u hu1 hb
    have hu2 := numR_le (b := b) (u := u) hu1
    have hbad := numR_bad (b := b) (u := u)
    generalize numR b u = R at *
    obtain ⟨f, u2, e2⟩ := R
    simp only at c2 hu2 hbad ⊢
    by_cases he2 : e2 ≠ 0
    · rw [if_pos he2]
      obtain rfl := hbad he2
      clear hbad
      have he' : ((e2 : Int) == 0) = false := by rw [beq_eq_false_iff_ne]; omega
      have he'' : ((e2 : Int) != 0) = true := by rw [bne, he']; rfl
      have c8 := refPred_spec ⟨7, 0, 0, 0, [], 0⟩ ⟨by simp, by simp, by simp⟩
      cases hv : predB ⟨7, 0, 0, 0, [], 0⟩ with
      | false =>
        rw [hv] at c8
        have c9 := RFail1 b u2 e2 (by omega) 5
        simp only [decPAV, prAV, zeroPr] at *
        refine ACall.of_body mixed Tryd.func103 rfl (by kernel_rfl) Tryd.ntmps103 (by kernel_rfl) rfl (by simp) (by simp) (by simp) fun σ N hp hpn hk hkn hfree => ?_
        have hcs := And.intro (c1 (N + 5)) (And.intro (c2 (N + 5)) (And.intro c8 (And.intro (c9 (N + 5)) True.intro)))
        clear c1 c2 c8 c9
        exact WL
      | true =>
        rw [hv] at c8
        simp only [decPAV, prAV, zeroPr] at *
        refine ACall.of_body mixed Tryd.func103 rfl (by kernel_rfl) Tryd.ntmps103 (by kernel_rfl) rfl (by simp) (by simp) (by simp) fun σ N hp hpn hk hkn hfree => ?_
        have hcs := And.intro (c1 (N + 5)) (And.intro (c2 (N + 5)) (And.intro c8 True.intro))
        clear c1 c2 c8
        exact WL
    have he0 : e2 = 0 := by omega
    subst he0
    rw [if_neg (by omega)]
    clear he2 hbad
    have c8 := refPred_spec ⟨7, 0, 0, 0, [], f⟩ ⟨by simp, by simp, by simp⟩
    cases hv : predB ⟨7, 0, 0, 0, [], f⟩ with
    | false =>
      unfold finP
      rw [hv]
      rw [hv] at c8
      have c9 := RFail0 b u2 5
      simp only [decPAV, prAV, zeroPr, Bool.false_eq_true, if_false] at *
      refine ACall.of_body mixed Tryd.func103 rfl (by kernel_rfl) Tryd.ntmps103 (by kernel_rfl) rfl (by simp) (by simp) (by simp) fun σ N hp hpn hk hkn hfree => ?_
      have hcs := And.intro (c1 (N + 5)) (And.intro (c2 (N + 5)) (And.intro c8 (And.intro (c9 (N + 5)) True.intro)))
      clear c1 c2 c8 c9
      exact WL
    | true =>
      unfold finP
      rw [hv]
      rw [hv] at c8
      simp only [decPAV, prAV, zeroPr, if_true] at *
      refine ACall.of_body mixed Tryd.func103 rfl (by kernel_rfl) Tryd.ntmps103 (by kernel_rfl) rfl (by simp) (by simp) (by simp) fun σ N hp hpn hk hkn hfree => ?_
      have hcs := And.intro (c1 (N + 5)) (And.intro (c2 (N + 5)) (And.intro c8 True.intro))
      clear c1 c2 c8
      exact WL
  rw [if_neg hk]
  have n7 : ((kn : Int) == 7) = false := by rw [beq_eq_false_iff_ne]; omega
  have c2 := RFail0 b u 6
  have c3 := refPred_spec ⟨kn, 0, 0, 0, [], 0⟩ ⟨by simp, by simp, by simp⟩
  have hv : predB ⟨kn, 0, 0, 0, [], 0⟩ = false := by
    cases hq : predB ⟨kn, 0, 0, 0, [], 0⟩ with
    | false => rfl
    | true =>
      exfalso
      have hne : ∀ j : Nat, (kn : Int) = (j : Int) → kn = j := fun j h => by omega
      simp only [beq_eq_false_iff_ne] at n1 n2 n3 n4 n5 n6 n7
      unfold predB at hq
      simp only [n1, n2, n3, n4, n5, n6, n7, if_false] at hq
      cases hq
  rw [hv] at c3
  have c4 := RFail1 b u 6 (by decide) 5
  have e6 : ((6 : Nat) : Int) = 6 := rfl
  simp only [decPAV, prAV, zeroPr, RdBox, e6] at *
  clear hk
  refine ACall.of_body mixed Tryd.func103 rfl (by kernel_rfl) Tryd.ntmps103 (by kernel_rfl) rfl (by simp) (by simp) (by simp) fun σ N hp hpn hk hkn hfree => ?_
  have hcs := And.intro (c1 (N + 5)) (And.intro (c2 (N + 5)) (And.intro c3 (And.intro (c4 (N + 5)) True.intro)))
  clear c1 c2 c3 c4
  exact WL
set_option maxHeartbeats 8000000 in
theorem rDec_mask (b : List UInt8) (_hb : b.length ≤ 1000000) (kn u : Nat) (c1 : ∀ d k : Nat, ACall Tryd.prog 77 [.ptr d [] 0] k [(d, RdBox b 0 0)] (.lit (.int .i64 kn)) [(d, RdBox b u 0)]) (hk : kn = 1 ∨ kn = 2 ∨ kn = 3)
    (L : List UInt8) (hlen : L.length = 8) (u2 e2 : Nat) (c2 : ∀ d k : Nat, ACall Tryd.prog 112 [.ptr d [] 0, .lit (.int .i64 8)] k [(d, RdBox b u 0)] (.slice none (L.map byteAV)) [(d, RdBox b u2 e2)])
    (R : Pr × Nat × Nat) (hR : R = if e2 ≠ 0 then (zeroPr, 0, e2) else finP ⟨kn, be8 L, 0, 0, [], 0⟩ u2) (k : Nat) : ACall Tryd.prog 103 [.slice none (b.map byteAV)] k [] (decPAV R) [] := by
  have h0b : be8 (List.take 0 L) = 0 := by simp [be8]
  have hknI : (kn : Int) = 1 ∨ (kn : Int) = 2 ∨ (kn : Int) = 3 := by omega
  obtain ⟨kz, hkz⟩ : ∃ z : Int, (kn : Int) = z := ⟨_, rfl⟩
  rw [hkz] at c1 hR hknI
  have hz : ∀ z : Int, z = kz → True := fun _ _ => trivial
  rcases hknI with rfl | rfl | rfl
  · refine ACall.of_body mixed Tryd.func103 rfl (by kernel_rfl) Tryd.ntmps103 (by kernel_rfl) rfl (by simp) (by simp) (by simp) fun σ N hp hpn hk hkn hfree => ?_
    have hcs := And.intro (c1 (N + 5)) (And.intro (c2 (N + 5)) True.intro)
    clear c1 c2
    refine Wk ?_
    refine go_loopF mixed (by kernel_rfl) [8, 25, 26, 27, 28, 29, 30, 31, 32, 33, 34, 35, 36, 37, 38] [N+7+3] (fun m_ s_ σ_ n_ => ∃ (i : Nat) (m : Nat), m_ = 8 - i ∧ s_ 8 = .lit (.int .i64 i) ∧ σ_ (N+7+3) = .box 24 (.agg [.lit (.int .i64 1), .lit (.int .u64 m), .lit (.int .i64 0), .lit (.int .i64 0), .lit (.string ByteArray.empty), .lit (.int .i64 0)]) ∧ (i ≤ 8) ∧ (be8 (L.take i) = m)) ⟨_, 0, 0, rfl, WF, WF, WC, WC⟩ ?_
    intro m_1 s_1 σ_1 n_1 hs_1 hf_1 hn_1 hI_1
    obtain ⟨i, m, hm_1, h1_8, e1_0, hi, hm⟩ := hI_1
    have h1_2 := (hs_1.at 2 (by decide)).trans WE
    have h1_3 := (hs_1.at 3 (by decide)).trans WE
    have h1_4 := (hs_1.at 4 (by decide)).trans WE
    have h1_5 := (hs_1.at 5 (by decide)).trans WE
    have h1_6 := (hs_1.at 6 (by decide)).trans WE
    have h1_7 := (hs_1.at 7 (by decide)).trans WE
    have h1_16 := (hs_1.at 16 (by decide)).trans WE
    have k1_0 := (hf_1.at (N) (by omega) WQ).trans WE
    have k1_1 := (hf_1.at (N + 3 + 2) (by omega) WQ).trans WE
    have hlow : ∀ id, id < N → σ_1 id = σ id := fun id hid => (hf_1.at id (by omega) WQ).trans WH
    clear h0b
    have hm1 := (be8_bound hlen hi).1
    have hm2 := (be8_bound hlen hi).2
    rw [hm] at hm1 hm2
    by_cases hi8 : i = 8
    · subst hi8
      rw [List.take_of_length_le (by omega)] at hm
      rw [hm] at hR
      have c8 := refPred_spec ⟨1, m, 0, 0, [], 0⟩ ⟨by simp only; omega, by simp only; omega, by simp⟩
      by_cases he2 : e2 ≠ 0
      · rw [if_pos he2] at hR
        subst hR
        have c9 := RFail1 b u2 e2 he2 5
        have he' : ((e2 : Int) == 0) = false := by rw [beq_eq_false_iff_ne]; omega
        have he'' : ((e2 : Int) != 0) = true := by rw [bne, he']; rfl
        cases hv : predB ⟨1, m, 0, 0, [], 0⟩ with
        | false =>
          rw [hv] at c8
          simp only [decPAV, prAV, zeroPr] at *
          have hcs := And.intro c8 (And.intro (c9 (N + 5)) True.intro)
          clear c8 c9
          exact WL
        | true =>
          rw [hv] at c8
          simp only [decPAV, prAV, zeroPr] at *
          have hcs := And.intro c8 True.intro
          clear c8 c9
          exact WL
      · obtain rfl : e2 = 0 := by omega
        rw [if_neg he2] at hR
        clear he2
        unfold finP at hR
        have c9 := RFail0 b u2 5
        cases hv : predB ⟨1, m, 0, 0, [], 0⟩ with
        | false =>
          rw [hv, if_neg (by decide)] at hR
          subst hR
          rw [hv] at c8
          simp only [decPAV, prAV, zeroPr] at *
          have hcs := And.intro c8 (And.intro (c9 (N + 5)) True.intro)
          clear c8 c9
          exact WL
        | true =>
          rw [hv, if_pos rfl] at hR
          subst hR
          rw [hv] at c8
          simp only [decPAV, prAV] at *
          have hcs := And.intro c8 True.intro
          clear c8 c9
          exact WL
    · have hil : i < L.length := by omega
      obtain ⟨x, hx⟩ : ∃ x, L[i] = x := ⟨_, rfl⟩
      have hxx : byteAV x = .lit (.int .u8 x.toNat) := rfl
      have hxl := x.toNat_lt
      have hm3 := be8_take hil
      rw [hm, hx] at hm3
      have w1 : IntKind.u64.wrap ((m : Int) * 256) = (m : Int) * 256 := wrap_u64r (by omega) (by omega)
      have w0 : IntKind.u64.wrap (256 * (m : Int)) = 256 * (m : Int) := wrap_u64r (by omega) (by omega)
      have w2 : IntKind.u64.wrap (x.toNat : Int) = (x.toNat : Int) := wrap_u64r (by omega) (by omega)
      have w3 : IntKind.u64.wrap (256 * (m : Int) + (x.toNat : Int)) = 256 * (m : Int) + (x.toNat : Int) := wrap_u64r (by omega) (by omega)
      have hil8 : (i : Int) < 8 := by omega
      clear hm
      refine Wk ?_
      exact ⟨WS, WG, WN, _, (show 8 - (i + 1) < m_1 by omega), i + 1, 256 * m + x.toNat, rfl, WF, WF, WC, WC⟩
  · refine ACall.of_body mixed Tryd.func103 rfl (by kernel_rfl) Tryd.ntmps103 (by kernel_rfl) rfl (by simp) (by simp) (by simp) fun σ N hp hpn hk hkn hfree => ?_
    have hcs := And.intro (c1 (N + 5)) (And.intro (c2 (N + 5)) True.intro)
    clear c1 c2
    refine Wk ?_
    refine go_loopF mixed (by kernel_rfl) [8, 25, 26, 27, 28, 29, 30, 31, 32, 33, 34, 35, 36, 37, 38] [N+7+3] (fun m_ s_ σ_ n_ => ∃ (i : Nat) (m : Nat), m_ = 8 - i ∧ s_ 8 = .lit (.int .i64 i) ∧ σ_ (N+7+3) = .box 24 (.agg [.lit (.int .i64 2), .lit (.int .u64 m), .lit (.int .i64 0), .lit (.int .i64 0), .lit (.string ByteArray.empty), .lit (.int .i64 0)]) ∧ (i ≤ 8) ∧ (be8 (L.take i) = m)) ⟨_, 0, 0, rfl, WF, WF, WC, WC⟩ ?_
    intro m_2 s_2 σ_2 n_2 hs_2 hf_2 hn_2 hI_2
    obtain ⟨i, m, hm_2, h2_8, e2_0, hi, hm⟩ := hI_2
    have h2_2 := (hs_2.at 2 (by decide)).trans WE
    have h2_3 := (hs_2.at 3 (by decide)).trans WE
    have h2_4 := (hs_2.at 4 (by decide)).trans WE
    have h2_5 := (hs_2.at 5 (by decide)).trans WE
    have h2_6 := (hs_2.at 6 (by decide)).trans WE
    have h2_7 := (hs_2.at 7 (by decide)).trans WE
    have h2_16 := (hs_2.at 16 (by decide)).trans WE
    have k2_0 := (hf_2.at (N) (by omega) WQ).trans WE
    have k2_1 := (hf_2.at (N + 3 + 2) (by omega) WQ).trans WE
    have hlow : ∀ id, id < N → σ_2 id = σ id := fun id hid => (hf_2.at id (by omega) WQ).trans WH
    clear h0b
    have hm1 := (be8_bound hlen hi).1
    have hm2 := (be8_bound hlen hi).2
    rw [hm] at hm1 hm2
    by_cases hi8 : i = 8
    · subst hi8
      rw [List.take_of_length_le (by omega)] at hm
      rw [hm] at hR
      have c8 := refPred_spec ⟨2, m, 0, 0, [], 0⟩ ⟨by simp only; omega, by simp only; omega, by simp⟩
      by_cases he2 : e2 ≠ 0
      · rw [if_pos he2] at hR
        subst hR
        have c9 := RFail1 b u2 e2 he2 5
        have he' : ((e2 : Int) == 0) = false := by rw [beq_eq_false_iff_ne]; omega
        have he'' : ((e2 : Int) != 0) = true := by rw [bne, he']; rfl
        cases hv : predB ⟨2, m, 0, 0, [], 0⟩ with
        | false =>
          rw [hv] at c8
          simp only [decPAV, prAV, zeroPr] at *
          have hcs := And.intro c8 (And.intro (c9 (N + 5)) True.intro)
          clear c8 c9
          exact WL
        | true =>
          rw [hv] at c8
          simp only [decPAV, prAV, zeroPr] at *
          have hcs := And.intro c8 True.intro
          clear c8 c9
          exact WL
      · obtain rfl : e2 = 0 := by omega
        rw [if_neg he2] at hR
        clear he2
        unfold finP at hR
        have c9 := RFail0 b u2 5
        cases hv : predB ⟨2, m, 0, 0, [], 0⟩ with
        | false =>
          rw [hv, if_neg (by decide)] at hR
          subst hR
          rw [hv] at c8
          simp only [decPAV, prAV, zeroPr] at *
          have hcs := And.intro c8 (And.intro (c9 (N + 5)) True.intro)
          clear c8 c9
          exact WL
        | true =>
          rw [hv, if_pos rfl] at hR
          subst hR
          rw [hv] at c8
          simp only [decPAV, prAV] at *
          have hcs := And.intro c8 True.intro
          clear c8 c9
          exact WL
    · have hil : i < L.length := by omega
      obtain ⟨x, hx⟩ : ∃ x, L[i] = x := ⟨_, rfl⟩
      have hxx : byteAV x = .lit (.int .u8 x.toNat) := rfl
      have hxl := x.toNat_lt
      have hm3 := be8_take hil
      rw [hm, hx] at hm3
      have w1 : IntKind.u64.wrap ((m : Int) * 256) = (m : Int) * 256 := wrap_u64r (by omega) (by omega)
      have w0 : IntKind.u64.wrap (256 * (m : Int)) = 256 * (m : Int) := wrap_u64r (by omega) (by omega)
      have w2 : IntKind.u64.wrap (x.toNat : Int) = (x.toNat : Int) := wrap_u64r (by omega) (by omega)
      have w3 : IntKind.u64.wrap (256 * (m : Int) + (x.toNat : Int)) = 256 * (m : Int) + (x.toNat : Int) := wrap_u64r (by omega) (by omega)
      have hil8 : (i : Int) < 8 := by omega
      clear hm
      refine Wk ?_
      exact ⟨WS, WG, WN, _, (show 8 - (i + 1) < m_2 by omega), i + 1, 256 * m + x.toNat, rfl, WF, WF, WC, WC⟩
  · refine ACall.of_body mixed Tryd.func103 rfl (by kernel_rfl) Tryd.ntmps103 (by kernel_rfl) rfl (by simp) (by simp) (by simp) fun σ N hp hpn hk hkn hfree => ?_
    have hcs := And.intro (c1 (N + 5)) (And.intro (c2 (N + 5)) True.intro)
    clear c1 c2
    refine Wk ?_
    refine go_loopF mixed (by kernel_rfl) [8, 25, 26, 27, 28, 29, 30, 31, 32, 33, 34, 35, 36, 37, 38] [N+7+3] (fun m_ s_ σ_ n_ => ∃ (i : Nat) (m : Nat), m_ = 8 - i ∧ s_ 8 = .lit (.int .i64 i) ∧ σ_ (N+7+3) = .box 24 (.agg [.lit (.int .i64 3), .lit (.int .u64 m), .lit (.int .i64 0), .lit (.int .i64 0), .lit (.string ByteArray.empty), .lit (.int .i64 0)]) ∧ (i ≤ 8) ∧ (be8 (L.take i) = m)) ⟨_, 0, 0, rfl, WF, WF, WC, WC⟩ ?_
    intro m_3 s_3 σ_3 n_3 hs_3 hf_3 hn_3 hI_3
    obtain ⟨i, m, hm_3, h3_8, e3_0, hi, hm⟩ := hI_3
    have h3_2 := (hs_3.at 2 (by decide)).trans WE
    have h3_3 := (hs_3.at 3 (by decide)).trans WE
    have h3_4 := (hs_3.at 4 (by decide)).trans WE
    have h3_5 := (hs_3.at 5 (by decide)).trans WE
    have h3_6 := (hs_3.at 6 (by decide)).trans WE
    have h3_7 := (hs_3.at 7 (by decide)).trans WE
    have h3_16 := (hs_3.at 16 (by decide)).trans WE
    have k3_0 := (hf_3.at (N) (by omega) WQ).trans WE
    have k3_1 := (hf_3.at (N + 3 + 2) (by omega) WQ).trans WE
    have hlow : ∀ id, id < N → σ_3 id = σ id := fun id hid => (hf_3.at id (by omega) WQ).trans WH
    clear h0b
    have hm1 := (be8_bound hlen hi).1
    have hm2 := (be8_bound hlen hi).2
    rw [hm] at hm1 hm2
    by_cases hi8 : i = 8
    · subst hi8
      rw [List.take_of_length_le (by omega)] at hm
      rw [hm] at hR
      have c8 := refPred_spec ⟨3, m, 0, 0, [], 0⟩ ⟨by simp only; omega, by simp only; omega, by simp⟩
      by_cases he2 : e2 ≠ 0
      · rw [if_pos he2] at hR
        subst hR
        have c9 := RFail1 b u2 e2 he2 5
        have he' : ((e2 : Int) == 0) = false := by rw [beq_eq_false_iff_ne]; omega
        have he'' : ((e2 : Int) != 0) = true := by rw [bne, he']; rfl
        cases hv : predB ⟨3, m, 0, 0, [], 0⟩ with
        | false =>
          rw [hv] at c8
          simp only [decPAV, prAV, zeroPr] at *
          have hcs := And.intro c8 (And.intro (c9 (N + 5)) True.intro)
          clear c8 c9
          exact WL
        | true =>
          rw [hv] at c8
          simp only [decPAV, prAV, zeroPr] at *
          have hcs := And.intro c8 True.intro
          clear c8 c9
          exact WL
      · obtain rfl : e2 = 0 := by omega
        rw [if_neg he2] at hR
        clear he2
        unfold finP at hR
        have c9 := RFail0 b u2 5
        cases hv : predB ⟨3, m, 0, 0, [], 0⟩ with
        | false =>
          rw [hv, if_neg (by decide)] at hR
          subst hR
          rw [hv] at c8
          simp only [decPAV, prAV, zeroPr] at *
          have hcs := And.intro c8 (And.intro (c9 (N + 5)) True.intro)
          clear c8 c9
          exact WL
        | true =>
          rw [hv, if_pos rfl] at hR
          subst hR
          rw [hv] at c8
          simp only [decPAV, prAV] at *
          have hcs := And.intro c8 True.intro
          clear c8 c9
          exact WL
    · have hil : i < L.length := by omega
      obtain ⟨x, hx⟩ : ∃ x, L[i] = x := ⟨_, rfl⟩
      have hxx : byteAV x = .lit (.int .u8 x.toNat) := rfl
      have hxl := x.toNat_lt
      have hm3 := be8_take hil
      rw [hm, hx] at hm3
      have w1 : IntKind.u64.wrap ((m : Int) * 256) = (m : Int) * 256 := wrap_u64r (by omega) (by omega)
      have w0 : IntKind.u64.wrap (256 * (m : Int)) = 256 * (m : Int) := wrap_u64r (by omega) (by omega)
      have w2 : IntKind.u64.wrap (x.toNat : Int) = (x.toNat : Int) := wrap_u64r (by omega) (by omega)
      have w3 : IntKind.u64.wrap (256 * (m : Int) + (x.toNat : Int)) = 256 * (m : Int) + (x.toNat : Int) := wrap_u64r (by omega) (by omega)
      have hil8 : (i : Int) < 8 := by omega
      clear hm
      refine Wk ?_
      exact ⟨WS, WG, WN, _, (show 8 - (i + 1) < m_3 by omega), i + 1, 256 * m + x.toNat, rfl, WF, WF, WC, WC⟩
theorem rDec_spec (b : List UInt8) (hb : b.length ≤ 1000000) (k : Nat) : ACall Tryd.prog 103 [.slice none (b.map byteAV)] k [] (decPAV (decP b)) [] := by
  have hu1 := numR_le (b := b) (u := 0) (Nat.zero_le _)
  obtain ⟨⟨kn, u, e⟩, hR⟩ : ∃ R, numR b 0 = R := ⟨_, rfl⟩
  rw [hR] at hu1
  simp only at hu1
  by_cases hk : kn = 1 ∨ kn = 2 ∨ kn = 3
  · have c1 := RNum_spec b 0 (Nat.zero_le _) hb
    have hbad := numR_bad (b := b) (u := 0)
    rw [hR] at c1 hbad
    simp only at c1 hbad
    obtain rfl : e = 0 := by
      by_cases h : e = 0
      · exact h
      · have := hbad h; omega
    unfold decP
    rw [hR]
    simp only
    rw [if_neg (by omega), if_pos hk]
    by_cases hs : b.length - u < 8
    · rw [if_pos hs]
      exact rDec_mask b hb kn u c1 hk (List.replicate 8 0) (by simp) u 3 (fun d k => RBytes_short b u hu1 hs hb d k) _ (by simp) k
    · rw [if_neg hs]
      exact rDec_mask b hb kn u c1 hk ((b.drop u).take 8) (by rw [List.length_take, List.length_drop]; omega) (u + 8) 0 (fun d k => RBytes_spec b u (by omega) hb d k) _ (by simp) k
  · exact rDec_other b hb kn u e hR hu1 hk k
end Go.Proofs.YtaelnglalpiemaaDoor
