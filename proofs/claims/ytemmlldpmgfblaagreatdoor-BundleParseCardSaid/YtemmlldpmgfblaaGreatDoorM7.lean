/- Texts K9, K12, K13, K14, K15, K16, K17, R3, R4, R6, R5, K10, joined. -/
import Derived.Test.YtemmlldpmgfblaaGreatDoorM6

namespace Go.Proofs.YtemmlldpmgfblaaGreatDoor
open Go.Ab
attribute [local irreducible] Go.Ab.tyAV Go.Ab.aw Go.Ab.aops Go.Ab.kReg Go.Ab.aThen Go.Ab.aBlk Go.Ab.acond Go.Ab.aguard Go.Ab.astep Go.Ab.AStepX Go.Ab.aRet
def encC (c : Ca) : List UInt8 := if c.third = false then 1 :: encP c.first else 2 :: (leb c.party.toNat ++ (fieldB c.ticket ++ fieldB c.box))
inductive CV : Ca → Prop where
 | first (p : Pr) (hp : predB p = true) : CV ⟨false, p, 0, [], []⟩
 | third (n : Nat) (hn : n ≤ 7) (t b : List UInt8) (ht : 1 ≤ t.length ∧ t.length ≤ 1024) (hb : 1 ≤ b.length ∧ b.length ≤ 1024) : CV ⟨true, zeroPr, n, t, b⟩
theorem sizedB_iff {b : List UInt8} : sizedB b = true ↔ 1 ≤ b.length ∧ b.length ≤ 1024 := by unfold sizedB; simp
theorem CV.of {c : Ca} (h : cavB c = true) : CV c := by
 obtain ⟨th, p, n, t, b⟩ := c
 unfold cavB at h
 simp only at h
 split at h
 ·rename_i e; subst e
  simp only [Bool.and_eq_true, decide_eq_true_eq, List.length_eq_zero_iff] at h
  obtain ⟨h1, h2, h3, h4⟩ := h
  subst h2 h3 h4
  exact .first p h1
 ·rename_i e
  obtain rfl : th = true := by cases th <;> simp_all
  simp only [Bool.and_eq_true, decide_eq_true_eq, sizedB_iff] at h
  obtain ⟨h1, h2, h3, h4, h5⟩ := h
  subst h1
  obtain ⟨m, rfl⟩ := Int.eq_ofNat_of_zero_le h2
  exact .third m (by omega) t b h4 h5
theorem CV.ok {c : Ca} (h : CV c) : cavB c = true := by
 cases h with
 | first p hp => simp [cavB, hp]
 | third n hn t b ht hb =>
  simp [cavB, sizedB_iff.2 ht, sizedB_iff.2 hb]
  omega
theorem encP_len (p : Pr) (h : predB p = true) : 1 ≤ (encP p).length ∧ (encP p).length ≤ 40 := by
 cases PV.of h with
 | mask kn m hk hm =>
  rw [encP_mask (by omega), List.length_append, eightB_len]
  have := leb_len kn 1 (by omega)
  omega
 | span kn f t hk =>
  rw [encP_span (by omega), List.length_append, List.length_append]
  have := leb_len kn 1 (by omega)
  have := leb_len f 5 (by omega)
  have := leb_len t 5 (by omega)
  have := leb_pos kn
  omega
 | holder n hn =>
  have := leb_len n.length 1 (by have := nameB_len hn; omega)
  have := leb_len 6 1 (by omega)
  have := nameB_len hn
  have := leb_pos 6
  rw [encP_holder, List.length_append, fieldB, List.length_append]
  omega
 | rides x hx =>
  have := leb_len x 5 (by omega)
  have := leb_len 7 1 (by omega)
  have := leb_pos 7
  rw [encP_rides, List.length_append]
  omega
theorem encC_len (c : Ca) (h : cavB c = true) : 1 ≤ (encC c).length ∧ (encC c).length ≤ 3000 := by
 cases CV.of h with
 | first p hp =>
  have := encP_len p hp
  simp only [encC, if_true, List.length_cons]
  omega
 | third n hn t b ht hb =>
  have := leb_len n 7 (by omega)
  have := leb_len t.length 7 (by omega)
  have := leb_len b.length 7 (by omega)
  simp only [encC, Bool.true_eq_false, if_false, List.length_cons, List.length_append, fieldB, Int.toNat_natCast]
  omega
theorem rEnc_bad (c : Ca) (hp0 : PrOk c.first) (h : cavB c = false) (k : Nat) :
  ACall Tryz.prog 134 [caAV c] k [] (.tup [.nils, .lit (.int .i64 5)]) [] := by
 have c1 := refCav_spec c hp0
 rw [h] at c1
 refine Bd Tryz.func134 Tryz.ntmps134 fun σ N hp hpn hk hkn hfree => ?_
 have hcs := And.intro c1 True.intro
 clear c1
 exact W0
theorem cEnc_first (p : Pr) (hp0 : PrOk p) (h : predB p = true) (d k : Nat) :
  ACall Tryz.prog 188 [caAV ⟨false, p, 0, [], []⟩] k [(d, bitsG)] (.tup [.slice none ((1 :: encP p).map byteAV), .lit (.int .i64 0)]) [] := by
 have c1 := cavValid_spec ⟨false, p, 0, [], []⟩ hp0 d
 rw [(CV.first p h).ok] at c1
 have c2 := Enc_spec p hp0 h d
 have hl := encP_len p h
 generalize encP p = R at *
 have hb1 : byteAV 1 = .lit (.int .u8 1) := rfl
 refine Bd Tryz.func188 Tryz.ntmps188 fun σ N hp hpn hk hkn hfree => ?_
 obtain ⟨hd, hdn⟩ := HD0 hp hpn; clear hp hpn
 have hcs := And.intro c1 (And.intro c2 True.intro)
 clear c1 c2
 exact WL
theorem rEnc_first (p : Pr) (hp0 : PrOk p) (h : predB p = true) (k : Nat) :
  ACall Tryz.prog 134 [caAV ⟨false, p, 0, [], []⟩] k [] (.tup [.slice none ((1 :: encP p).map byteAV), .lit (.int .i64 0)]) [] := by
 have c1 := refCav_spec ⟨false, p, 0, [], []⟩ hp0
 rw [(CV.first p h).ok] at c1
 have c2 := refEnc_spec p hp0 h
 have hl := encP_len p h
 generalize encP p = R at *
 have hb1 : byteAV 1 = .lit (.int .u8 1) := rfl
 refine Bd Tryz.func134 Tryz.ntmps134 fun σ N hp hpn hk hkn hfree => ?_
 have hcs := And.intro c1 (And.intro c2 True.intro)
 clear c1 c2
 exact WL
theorem zeroPr_ok : PrOk zeroPr := ⟨by decide, by decide, by decide⟩
set_option maxHeartbeats 4000000 in
theorem cEnc_third (n : Nat) (hn : n ≤ 7) (t b : List UInt8) (ht : 1 ≤ t.length ∧ t.length ≤ 1024) (hb : 1 ≤ b.length ∧ b.length ≤ 1024) (d k : Nat) :
  ACall Tryz.prog 188 [caAV ⟨true, zeroPr, n, t, b⟩] k [(d, bitsG)] (.tup [.slice none ((2 :: (leb n ++ (fieldB t ++ fieldB b))).map byteAV), .lit (.int .i64 0)]) [] := by
 have c1 := cavValid_spec ⟨true, zeroPr, n, t, b⟩ zeroPr_ok d
 rw [(CV.third n hn t b ht hb).ok] at c1
 have hl := leb_len n 7 (by omega)
 have hl1 := leb_len t.length 7 (by omega)
 have hl2 := leb_len b.length 7 (by omega)
 have hf1 : (fieldB t).length ≤ 2000 := by simp only [fieldB, List.length_append]; omega
 have c2 := Append_ok [2] (by simp) n (by omega)
 have c3 := field_ok ([2] ++ leb n) t (by simp; omega) ht.2
 have c4 := field_ok ([2] ++ leb n ++ fieldB t) b (by simp; omega) hb.2
 have hR : 2 :: (leb n ++ (fieldB t ++ fieldB b)) = [2] ++ leb n ++ fieldB t ++ fieldB b := by simp
 have h2l : [(2 : UInt8)].length + (leb n).length = ([2] ++ leb n).length := by simp; omega
 rw [hR]
 rw [h2l] at c2
 clear hR h2l
 generalize [2] ++ leb n ++ fieldB t ++ fieldB b = R3 at *
 generalize [2] ++ leb n ++ fieldB t = R2 at *
 generalize [2] ++ leb n = R1 at *
 have hb1 : byteAV 2 = .lit (.int .u8 2) := rfl
 simp only [caAV, List.map_cons, List.map_nil, hb1] at *
 refine Bd Tryz.func188 Tryz.ntmps188 fun σ N hp hpn hk hkn hfree => ?_
 obtain ⟨hd, hdn⟩ := HD0 hp hpn; clear hp hpn
 have hcs := And.intro c1 (And.intro c2 True.intro)
 clear c1 c2
 refine Wk ?_
 refine go_loopB (N + 1) mixed (by kernel_rfl) [6, 7, 9, 38, 39, 40, 41, 42, 43, 44, 45, 46, 47, 48, 49] [] (fun m_ s_ σ_ n_ => ∃ (u : Nat) (q : Nat) (acc : List UInt8), m_ = 2 - u ∧ s_ 38 = .lit (.int .i64 u) ∧ s_ 6 = .slice (some q) (acc.map byteAV) ∧ s_ 7 = .lit (.int .i64 0) ∧ σ_ (q) = .row 5 1 acc.length ∧ (u = 0 ∧ acc = R1 ∨ u = 1 ∧ acc = R2 ∨ u = 2 ∧ acc = R3) ∧ (N + 1 ≤ q) ∧ (q < n_)) ⟨_, 0, _, R1, rfl, WF, WF, WF, WF, WC, WC, WC⟩ ?_
 intro m_1 s_1 σ_1 n_1 hs_1 hf_1 hn_1 hI_1
 obtain ⟨u, q, acc, hm_1, h1_38, h1_6, h1_7, e1_0, hu, hq, hqn⟩ := hI_1
 have h1_2 := KS hs_1 2
 have h1_3 := KS hs_1 3
 have h1_37 := KS hs_1 37
 have k1_0 := KE hf_1 (N)
 have hlow := KL (N := N) (σ := σ) hf_1
 rcases hu with ⟨rfl, rfl⟩ | ⟨rfl, rfl⟩ | ⟨rfl, rfl⟩
 ·have hcs := And.intro c3 True.intro
  clear c3 c4
  refine Wk ?_
  exact ⟨WS, WG, WN, _, (show 2 - (1) < m_1 by omega), 1, _, R2, rfl, WF, WF, WF, WF, WC, WC, WC⟩
 ·have hcs := And.intro c4 True.intro
  clear c3 c4
  refine Wk ?_
  exact ⟨WS, WG, WN, _, (show 2 - (2) < m_1 by omega), 2, _, R3, rfl, WF, WF, WF, WF, WC, WC, WC⟩
 ·clear c3 c4
  exact WL
set_option maxHeartbeats 4000000 in
theorem rEnc_third (n : Nat) (hn : n ≤ 7) (t b : List UInt8) (ht : 1 ≤ t.length ∧ t.length ≤ 1024) (hb : 1 ≤ b.length ∧ b.length ≤ 1024) (k : Nat) :
  ACall Tryz.prog 134 [caAV ⟨true, zeroPr, n, t, b⟩] k [] (.tup [.slice none ((2 :: (leb n ++ (fieldB t ++ fieldB b))).map byteAV), .lit (.int .i64 0)]) [] := by
 have c1 := refCav_spec ⟨true, zeroPr, n, t, b⟩ zeroPr_ok
 rw [(CV.third n hn t b ht hb).ok] at c1
 have hl := leb_len n 7 (by omega)
 have hl1 := leb_len t.length 7 (by omega)
 have hl2 := leb_len b.length 7 (by omega)
 have hf1 : (fieldB t).length ≤ 2000 := by simp only [fieldB, List.length_append]; omega
 have hf2 : (fieldB b).length ≤ 2000 := by simp only [fieldB, List.length_append]; omega
 have hn9 : n < 128 ^ 9 := by omega
 have c2 := Number_spec_f n
 have c3 := Field_spec_f t (by omega)
 have c4 := Field_spec_f b (by omega)
 generalize leb n = L1 at *
 generalize fieldB t = L2 at *
 generalize fieldB b = L3 at *
 have hb1 : byteAV 2 = .lit (.int .u8 2) := rfl
 simp only [caAV] at *
 refine Bd Tryz.func134 Tryz.ntmps134 fun σ N hp hpn hk hkn hfree => ?_
 have hcs := And.intro c1 (And.intro (fun k => c2 k hn9) (And.intro c3 (And.intro c4 True.intro)))
 clear c1 c2 c3 c4
 exact WL
theorem cEnc_ok (c : Ca) (hp0 : PrOk c.first) (h : cavB c = true) (d k : Nat) :
  ACall Tryz.prog 188 [caAV c] k [(d, bitsG)] (.tup [.slice none ((encC c).map byteAV), .lit (.int .i64 0)]) [] := by
 cases CV.of h with
 | first p hp => exact cEnc_first p hp0 hp d k
 | third n hn t b ht hb => exact cEnc_third n hn t b ht hb d k
theorem rEnc_ok (c : Ca) (hp0 : PrOk c.first) (h : cavB c = true) (k : Nat) :
  ACall Tryz.prog 134 [caAV c] k [] (.tup [.slice none ((encC c).map byteAV), .lit (.int .i64 0)]) [] := by
 cases CV.of h with
 | first p hp => exact rEnc_first p hp0 hp k
 | third n hn t b ht hb => exact rEnc_third n hn t b ht hb k
def encS (c : Ca) : List UInt8 × Nat := if cavB c = true then (encC c, 0) else ([], 5)
def encAV (x : List UInt8 × Nat) : AV := .tup [.slice none (x.1.map byteAV), .lit (.int .i64 x.2)]
theorem rEnc_spec (c : Ca) (hp0 : PrOk c.first) (k : Nat) : ACall Tryz.prog 134 [caAV c] k [] (encAV (encS c)) [] := by
 unfold encS
 split
 ·rename_i h; exact rEnc_ok c hp0 h k
 ·rename_i h
  exact (rEnc_bad c hp0 (by simpa using h) k).result (AV.sub_tup (.cons AV.le_nils0 (.cons (AV.le_refl _) .nil)))
theorem encS_len (c : Ca) : (encS c).1.length ≤ 3000 := by
 unfold encS
 split
 ·rename_i h; exact (encC_len c h).2
 ·simp

def rdBox (b : List UInt8) (u e : Nat) : Ent := .box 273 (.agg [.slice none (b.map byteAV), .lit (.int .i64 u), .lit (.int .i64 e)])
def RdBox (b : List UInt8) (u e : Nat) : Ent := .box 169 (.agg [.slice none (b.map byteAV), .lit (.int .i64 u), .lit (.int .i64 e)])
@[simp, go_sem] theorem rdBox_ne (b : List UInt8) (u e : Nat) : (rdBox b u e = .none) = False := by simp [rdBox]
@[simp, go_sem] theorem RdBox_ne (b : List UInt8) (u e : Nat) : (RdBox b u e = .none) = False := by simp [RdBox]
@[go_sem] theorem rdBox_ren (b : List UInt8) (u e : Nat) (f : Nat → Option Nat) : (rdBox b u e).ren f = rdBox b u e := by
 simp only [rdBox, ent_ren_box, AV.ren, AV.renl, renl_bytes, Option.bind_none]
@[go_sem] theorem RdBox_ren (b : List UInt8) (u e : Nat) (f : Nat → Option Nat) : (RdBox b u e).ren f = RdBox b u e := by
 simp only [RdBox, ent_ren_box, AV.ren, AV.renl, renl_bytes, Option.bind_none]
def numR (b : List UInt8) (u : Nat) : Nat × Nat × Nat := ((rdS (b.drop u)).1, u + (rdS (b.drop u)).2.1, (rdS (b.drop u)).2.2)
def fldR (b : List UInt8) (u : Nat) : List UInt8 × Nat × Nat := ((rdF (b.drop u)).1, u + (rdF (b.drop u)).2.1, (rdF (b.drop u)).2.2)
theorem rdF_le (b : List UInt8) : (rdF b).2.1 ≤ b.length := by
 have := rdS_le b
 unfold rdF
 split
 ·simp
 split
 ·simp
 split
 ·simp
 ·simp only; omega
theorem numR_le {b : List UInt8} {u : Nat} (h : u ≤ b.length) : (numR b u).2.1 ≤ b.length := by
 have := rdS_le (b.drop u)
 rw [List.length_drop] at this
 unfold numR
 simp only
 omega
theorem fldR_le {b : List UInt8} {u : Nat} (h : u ≤ b.length) : (fldR b u).2.1 ≤ b.length := by
 have := rdF_le (b.drop u)
 rw [List.length_drop] at this
 unfold fldR
 simp only
 omega
theorem rnum_spec (b : List UInt8) (u : Nat) (hu : u ≤ b.length) (hb : b.length ≤ 1000000) (d k : Nat) :
  ACall Tryz.prog 221 [.ptr d [] 0] k [(d, rdBox b u 0)] (.lit (.int .i64 (numR b u).1)) [(d, rdBox b (numR b u).2.1 (numR b u).2.2)] := by
 have c1 := Read_spec (b.drop u) (by rw [List.length_drop]; omega)
 have hl := rdS_le (b.drop u)
 rw [List.length_drop] at hl
 have hd1 : (b.map byteAV).drop u = (b.drop u).map byteAV := by rw [List.map_drop]
 unfold numR
 generalize rdS (b.drop u) = R at *
 obtain ⟨n, q, e⟩ := R
 simp only [rdAV] at *
 generalize b.drop u = t at *
 simp only [rdBox]
 refine Bd Tryz.func221 Tryz.ntmps221 fun σ N hp hpn hk hkn hfree => ?_
 obtain ⟨hd, hdn⟩ := HD0 hp hpn; clear hp hpn
 have hcs := And.intro c1 True.intro
 clear c1
 refine Wk ?_
 exact RW (d) (.box 273 (.agg [.slice none (b.map byteAV), .lit (.int .i64 ((u : Int) + (q : Int))), .lit (.int .i64 (e : Int))]))
theorem or64 (y x : Int) (h0 : 0 ≤ y) (h1 : y < 72057594037927936) (h2 : 0 ≤ x) (h3 : x < 256) : bits .or .u64 (y * 256) x = y * 256 + x :=
 bits_join .u64 64 (by decide) (fun n a b => wrap_u64r (by omega) (by omega)) 8 (y * 256) x (by omega) (by omega) (by omega) h2 (by omega) (by omega)
def be8 (l : List UInt8) : Nat := l.foldl (fun m x => 256 * m + x.toNat) 0
theorem be8_snoc (l : List UInt8) (x : UInt8) : be8 (l ++ [x]) = 256 * be8 l + x.toNat := by simp [be8]
theorem be8_lt (l : List UInt8) : be8 l < 256 ^ l.length := by
 have key : ∀ (r : List UInt8) (m j : Nat), m < 256 ^ j → r.foldl (fun m x => 256 * m + x.toNat) m < 256 ^ (j + r.length) := by
  intro r
  induction r with
  | nil => intro m j h; simpa using h
  | cons x r ih =>
   intro m j h
   have hx := x.toNat_lt
   have := ih (256 * m + x.toNat) (j + 1) (by rw [Nat.pow_succ]; omega)
   rw [List.foldl_cons, List.length_cons]
   rw [show j + (r.length + 1) = j + 1 + r.length from by omega]
   exact this
 have := key l 0 0 (by simp)
 simpa [be8] using this
theorem be8_take {L : List UInt8} {i : Nat} (h : i < L.length) : be8 (L.take (i + 1)) = 256 * be8 (L.take i) + L[i].toNat := by
 rw [List.take_add_one, List.getElem?_eq_getElem h]
 exact be8_snoc _ _
theorem be8_bound {L : List UInt8} {i : Nat} (h : L.length = 8) (hi : i ≤ 8) : be8 (L.take i) < 18446744073709551616 ∧ (i < 8 → be8 (L.take i) < 72057594037927936) := by
 have h1 := be8_lt (L.take i)
 rw [List.length_take, Nat.min_eq_left (by omega)] at h1
 have h2 : 256 ^ i ≤ 256 ^ 8 := Nat.pow_le_pow_right (by decide) hi
 refine ⟨by omega, fun h3 => ?_⟩
 have h4 : 256 ^ i ≤ 256 ^ 7 := Nat.pow_le_pow_right (by decide) (by omega)
 omega
theorem rmask_short (b : List UInt8) (u : Nat) (hu : u ≤ b.length) (_hb : b.length ≤ 1000000) (hs : b.length - u < 8) (d k : Nat) :
  ACall Tryz.prog 222 [.ptr d [] 0] k [(d, rdBox b u 0)] (.lit (.int .u64 0)) [(d, rdBox b u 3)] := by
 have hs' : (b.length : Int) - (u : Int) < 8 := by omega
 simp only [rdBox]
 refine Bd Tryz.func222 Tryz.ntmps222 fun σ N hp hpn hk hkn hfree => ?_
 obtain ⟨hd, hdn⟩ := HD0 hp hpn; clear hp hpn
 refine Wk ?_
 exact RW (d) (.box 273 (.agg [.slice none (b.map byteAV), .lit (.int .i64 (u : Int)), .lit (.int .i64 3)]))
theorem rmask_spec (b : List UInt8) (u : Nat) (hb : b.length ≤ 1000000) (hs : u + 8 ≤ b.length) (d k : Nat) :
  ACall Tryz.prog 222 [.ptr d [] 0] k [(d, rdBox b u 0)] (.lit (.int .u64 (be8 ((b.drop u).take 8)))) [(d, rdBox b (u + 8) 0)] := by
 have hs' : ¬ (b.length : Int) - (u : Int) < 8 := by omega
 have hlen : ((b.drop u).take 8).length = 8 := by rw [List.length_take, List.length_drop]; omega
 have h0b : be8 (List.take 0 ((b.drop u).take 8)) = 0 := by simp [be8]
 have hsl := take_drop_bytes b u 8
 have hu8 : ((u : Int) + 8).toNat = u + 8 := by omega
 generalize (b.drop u).take 8 = L at *
 simp only [rdBox]
 refine Bd Tryz.func222 Tryz.ntmps222 fun σ N hp hpn hk hkn hfree => ?_
 obtain ⟨hd, hdn⟩ := HD0 hp hpn; clear hp hpn
 refine Wk ?_
 refine go_loopF mixed (by kernel_rfl) [3, 5, 35, 36, 37, 38, 39, 40, 41, 42, 43, 44] [] (fun m_ s_ σ_ n_ => ∃ (i : Nat) (m : Nat), m_ = 8 - i ∧ s_ 35 = .lit (.int .i64 i) ∧ s_ 3 = .lit (.int .u64 m) ∧ (i ≤ 8) ∧ (be8 (L.take i) = m)) ⟨_, 0, 0, rfl, WF, WF, WC, WC⟩ ?_
 intro m_1 s_1 σ_1 n_1 hs_1 hf_1 hn_1 hI_1
 obtain ⟨i, m, hm_1, h1_35, h1_3, hi, hm⟩ := hI_1
 have h1_0 := KS hs_1 0
 have h1_2 := KS hs_1 2
 have h1_33 := KS hs_1 33
 have h1_34 := KS hs_1 34
 have k1_0 := KE hf_1 (d)
 have hlow := KL (N := N) (σ := σ) hf_1
 clear h0b
 have hm1 := (be8_bound hlen hi).1
 have hm2 := (be8_bound hlen hi).2
 rw [hm] at hm1 hm2
 by_cases hi8 : i = 8
 ·subst hi8
  rw [List.take_of_length_le (by omega)] at hm
  rw [hm]
  refine Wk ?_
  exact RW (d) (.box 273 (.agg [.slice none (b.map byteAV), .lit (.int .i64 ((u : Int) + 8)), .lit (.int .i64 0)]))
 ·have hil : i < L.length := by omega
  obtain ⟨x, hx⟩ : ∃ x, L[i] = x := ⟨_, rfl⟩
  have hxx : byteAV x = .lit (.int .u8 x.toNat) := rfl
  have hxl := x.toNat_lt
  have hm3 := be8_take hil
  rw [hm, hx] at hm3
  have w1 : IntKind.u64.wrap ((m : Int) * 256) = (m : Int) * 256 := wrap_u64r (by omega) (by omega)
  have w2 : IntKind.u64.wrap (x.toNat : Int) = (x.toNat : Int) := wrap_u64r (by omega) (by omega)
  have w3 := or64 m x.toNat (by omega) (by omega) (by omega) (by omega)
  have hm4 : (m : Int) * 256 + (x.toNat : Int) = ((256 * m + x.toNat : Nat) : Int) := by omega
  have hil8 : (i : Int) < 8 := by omega
  have hmE := hm3
  clear hm
  refine Wk ?_
  exact ⟨WS, WG, WN, _, (show 8 - (i + 1) < m_1 by omega), i + 1, 256 * m + x.toNat, rfl, WF, WF, WC, WC⟩

theorem rnum_off (b : List UInt8) (u e : Nat) (he : e ≠ 0) (d k : Nat) :
  ACall Tryz.prog 221 [.ptr d [] 0] k [(d, rdBox b u e)] (.lit (.int .i64 0)) [(d, rdBox b u e)] := by
 have he' : ((e : Int) == 0) = false := by rw [beq_eq_false_iff_ne]; omega
 simp only [rdBox]
 refine Bd Tryz.func221 Tryz.ntmps221 fun σ N hp hpn hk hkn hfree => ?_
 obtain ⟨hd, hdn⟩ := HD0 hp hpn; clear hp hpn
 refine Wk ?_
 exact RW (d) (.box 273 (.agg [.slice none (b.map byteAV), .lit (.int .i64 (u : Int)), .lit (.int .i64 (e : Int))]))
theorem rname_spec (b : List UInt8) (u : Nat) (hu : u ≤ b.length) (hb : b.length ≤ 1000000) (d k : Nat) :
  ACall Tryz.prog 223 [.ptr d [] 0] k [(d, rdBox b u 0)] (.lit (.string ⟨(fldR b u).1.toArray⟩)) [(d, rdBox b (fldR b u).2.1 (fldR b u).2.2)] := by
 have c1 := fieldRead_spec (b.drop u) (by rw [List.length_drop]; omega)
 have hl := rdF_le (b.drop u)
 rw [List.length_drop] at hl
 have hd1 : (b.map byteAV).drop u = (b.drop u).map byteAV := by rw [List.map_drop]
 unfold fldR
 generalize rdF (b.drop u) = R at *
 obtain ⟨n, q, e⟩ := R
 simp only [rdFAV] at *
 generalize b.drop u = t at *
 simp only [rdBox]
 refine Bd Tryz.func223 Tryz.ntmps223 fun σ N hp hpn hk hkn hfree => ?_
 obtain ⟨hd, hdn⟩ := HD0 hp hpn; clear hp hpn
 have hcs := And.intro c1 True.intro
 clear c1
 refine Wk ?_
 exact RW (d) (.box 273 (.agg [.slice none (b.map byteAV), .lit (.int .i64 ((u : Int) + (q : Int))), .lit (.int .i64 (e : Int))]))
theorem RFail0 (b : List UInt8) (u : Nat) (e : Int) (d k : Nat) :
  ACall Tryz.prog 95 [.ptr d [] 0, .lit (.int .i64 e)] k [(d, RdBox b u 0)] (.tup []) [(d, .box 169 (.agg [.slice none (b.map byteAV), .lit (.int .i64 u), .lit (.int .i64 e)]))] := by
 simp only [RdBox]
 refine Bd Tryz.func95 Tryz.ntmps95 fun σ N hp hpn hk hkn hfree => ?_
 obtain ⟨hd, hdn⟩ := HD0 hp hpn; clear hp hpn
 refine Wk ?_
 refine go_fall ?_
 exact RW (d) (.box 169 (.agg [.slice none (b.map byteAV), .lit (.int .i64 (u : Int)), .lit (.int .i64 e)]))
theorem RFail1 (b : List UInt8) (u e0 : Nat) (h : e0 ≠ 0) (e : Int) (d k : Nat) :
  ACall Tryz.prog 95 [.ptr d [] 0, .lit (.int .i64 e)] k [(d, RdBox b u e0)] (.tup []) [(d, RdBox b u e0)] := by
 have he' : ((e0 : Int) == 0) = false := by rw [beq_eq_false_iff_ne]; omega
 simp only [RdBox]
 refine Bd Tryz.func95 Tryz.ntmps95 fun σ N hp hpn hk hkn hfree => ?_
 obtain ⟨hd, hdn⟩ := HD0 hp hpn; clear hp hpn
 refine Wk ?_
 refine go_fall ?_
 exact RW (d) (.box 169 (.agg [.slice none (b.map byteAV), .lit (.int .i64 (u : Int)), .lit (.int .i64 (e0 : Int))]))
theorem RNum_spec (b : List UInt8) (u : Nat) (hu : u ≤ b.length) (hb : b.length ≤ 1000000) (d k : Nat) :
  ACall Tryz.prog 94 [.ptr d [] 0] k [(d, RdBox b u 0)] (.lit (.int .i64 (numR b u).1)) [(d, RdBox b (numR b u).2.1 (numR b u).2.2)] := by
 have c1 := refRead_spec (b.drop u) (by rw [List.length_drop]; omega)
 have hl := rdS_le (b.drop u)
 rw [List.length_drop] at hl
 have hd1 : (b.map byteAV).drop u = (b.drop u).map byteAV := by rw [List.map_drop]
 unfold numR
 generalize rdS (b.drop u) = R at *
 obtain ⟨n, q, e⟩ := R
 simp only [rdAV] at *
 generalize b.drop u = t at *
 have c2 := RFail0 b u e d
 simp only [RdBox] at *
 refine Bd Tryz.func94 Tryz.ntmps94 fun σ N hp hpn hk hkn hfree => ?_
 obtain ⟨hd, hdn⟩ := HD0 hp hpn; clear hp hpn
 have hcs := And.intro c1 (And.intro c2 True.intro)
 clear c1 c2
 refine Wk ?_
 exact RW (d) (.box 169 (.agg [.slice none (b.map byteAV), .lit (.int .i64 ((u : Int) + (q : Int))), .lit (.int .i64 (e : Int))]))
theorem RNum_off (b : List UInt8) (u e : Nat) (he : e ≠ 0) (d k : Nat) :
  ACall Tryz.prog 94 [.ptr d [] 0] k [(d, RdBox b u e)] (.lit (.int .i64 0)) [(d, RdBox b u e)] := by
 have he' : ((e : Int) == 0) = false := by rw [beq_eq_false_iff_ne]; omega
 simp only [RdBox]
 refine Bd Tryz.func94 Tryz.ntmps94 fun σ N hp hpn hk hkn hfree => ?_
 obtain ⟨hd, hdn⟩ := HD0 hp hpn; clear hp hpn
 refine Wk ?_
 exact RW (d) (.box 169 (.agg [.slice none (b.map byteAV), .lit (.int .i64 (u : Int)), .lit (.int .i64 (e : Int))]))
theorem rdF_len (b : List UInt8) : (rdF b).1.length ≤ 1024 := by
 unfold rdF
 split
 ·simp
 split
 ·simp
 split
 ·simp
 ·simp only [List.length_take]; omega
theorem RField_spec (b : List UInt8) (u : Nat) (hu : u ≤ b.length) (hb : b.length ≤ 1000000) (d k : Nat) :
  ACall Tryz.prog 99 [.ptr d [] 0] k [(d, RdBox b u 0)] (.slice none ((fldR b u).1.map byteAV)) [(d, RdBox b (fldR b u).2.1 (fldR b u).2.2)] := by
 have c1 := refReadField_spec (b.drop u) (by rw [List.length_drop]; omega)
 have hl := rdF_le (b.drop u)
 have hl2 := rdF_len (b.drop u)
 rw [List.length_drop] at hl
 have hd1 : (b.map byteAV).drop u = (b.drop u).map byteAV := by rw [List.map_drop]
 unfold fldR
 generalize rdF (b.drop u) = R at *
 obtain ⟨n, q, e⟩ := R
 simp only [rdFAV] at *
 generalize b.drop u = t at *
 have c2 := RFail0 b u e d
 simp only [RdBox] at *
 refine Bd Tryz.func99 Tryz.ntmps99 fun σ N hp hpn hk hkn hfree => ?_
 obtain ⟨hd, hdn⟩ := HD0 hp hpn; clear hp hpn
 have hcs := And.intro c1 (And.intro c2 True.intro)
 clear c1 c2
 refine Wk ?_
 exact RV (d) (.box 169 (.agg [.slice none (b.map byteAV), .lit (.int .i64 ((u : Int) + (q : Int))), .lit (.int .i64 (e : Int))]))
theorem RField_off (b : List UInt8) (u e : Nat) (he : e ≠ 0) (d k : Nat) :
  ACall Tryz.prog 99 [.ptr d [] 0] k [(d, RdBox b u e)] (.slice none []) [(d, RdBox b u e)] := by
 have he' : ((e : Int) == 0) = false := by rw [beq_eq_false_iff_ne]; omega
 simp only [RdBox]
 refine Bd Tryz.func99 Tryz.ntmps99 fun σ N hp hpn hk hkn hfree => ?_
 obtain ⟨hd, hdn⟩ := HD0 hp hpn; clear hp hpn
 refine Wk ?_
 exact RV (d) (.box 169 (.agg [.slice none (b.map byteAV), .lit (.int .i64 (u : Int)), .lit (.int .i64 (e : Int))]))
theorem RBytes_short (b : List UInt8) (u : Nat) (hu : u ≤ b.length) (hs : b.length - u < 8) (_hb : b.length ≤ 1000000) (d k : Nat) :
  ACall Tryz.prog 165 [.ptr d [] 0, .lit (.int .i64 8)] k [(d, RdBox b u 0)] (.slice none ((List.replicate 8 (0 : UInt8)).map byteAV)) [(d, RdBox b u 3)] := by
 have hs' : (b.length : Int) - (u : Int) < 8 := by omega
 have hz : (List.replicate 8 (0 : UInt8)).map byteAV = [byteAV 0, byteAV 0, byteAV 0, byteAV 0, byteAV 0, byteAV 0, byteAV 0, byteAV 0] := rfl
 have hz0 : byteAV 0 = .lit (.int .u8 0) := rfl
 rw [hz]
 simp only [RdBox]
 refine Bd Tryz.func165 Tryz.ntmps165 fun σ N hp hpn hk hkn hfree => ?_
 obtain ⟨hd, hdn⟩ := HD0 hp hpn; clear hp hpn
 refine Wk ?_
 exact RV (d) (.box 169 (.agg [.slice none (b.map byteAV), .lit (.int .i64 (u : Int)), .lit (.int .i64 3)]))
theorem RBytes_spec (b : List UInt8) (u : Nat) (hs : u + 8 ≤ b.length) (hb : b.length ≤ 1000000) (d k : Nat) :
  ACall Tryz.prog 165 [.ptr d [] 0, .lit (.int .i64 8)] k [(d, RdBox b u 0)] (.slice none (((b.drop u).take 8).map byteAV)) [(d, RdBox b (u + 8) 0)] := by
 have hs' : ¬ (b.length : Int) - (u : Int) < 8 := by omega
 have hsl := take_drop_bytes b u 8
 have hu8 : ((u : Int) + 8).toNat = u + 8 := by omega
 generalize (b.drop u).take 8 = L at *
 simp only [RdBox]
 refine Bd Tryz.func165 Tryz.ntmps165 fun σ N hp hpn hk hkn hfree => ?_
 obtain ⟨hd, hdn⟩ := HD0 hp hpn; clear hp hpn
 refine Wk ?_
 exact RV (d) (.box 169 (.agg [.slice none (b.map byteAV), .lit (.int .i64 ((u : Int) + 8)), .lit (.int .i64 0)]))

attribute [go_sem] rdBox RdBox
def finP (p : Pr) (u : Nat) : Pr × Nat × Nat := if predB p = true then (p, u, 0) else (zeroPr, 0, 5)
def decP (b : List UInt8) : Pr × Nat × Nat :=
 if (numR b 0).2.2 ≠ 0 then (zeroPr, 0, (numR b 0).2.2)
 else if (numR b 0).1 = 1 ∨ (numR b 0).1 = 2 ∨ (numR b 0).1 = 3 then
  if b.length - (numR b 0).2.1 < 8 then (zeroPr, 0, 3) else finP ⟨(numR b 0).1, be8 ((b.drop (numR b 0).2.1).take 8), 0, 0, [], 0⟩ ((numR b 0).2.1 + 8)
 else if (numR b 0).1 = 4 ∨ (numR b 0).1 = 5 then
  if (numR b (numR b 0).2.1).2.2 ≠ 0 then (zeroPr, 0, (numR b (numR b 0).2.1).2.2)
  else if (numR b (numR b (numR b 0).2.1).2.1).2.2 ≠ 0 then (zeroPr, 0, (numR b (numR b (numR b 0).2.1).2.1).2.2)
  else finP ⟨(numR b 0).1, 0, (numR b (numR b 0).2.1).1, (numR b (numR b (numR b 0).2.1).2.1).1, [], 0⟩ (numR b (numR b (numR b 0).2.1).2.1).2.1
 else if (numR b 0).1 = 6 then
  if (fldR b (numR b 0).2.1).2.2 ≠ 0 then (zeroPr, 0, (fldR b (numR b 0).2.1).2.2) else finP ⟨6, 0, 0, 0, (fldR b (numR b 0).2.1).1, 0⟩ (fldR b (numR b 0).2.1).2.1
 else if (numR b 0).1 = 7 then
  if (numR b (numR b 0).2.1).2.2 ≠ 0 then (zeroPr, 0, (numR b (numR b 0).2.1).2.2) else finP ⟨7, 0, 0, 0, [], (numR b (numR b 0).2.1).1⟩ (numR b (numR b 0).2.1).2.1
 else (zeroPr, 0, 6)
def decPAV (r : Pr × Nat × Nat) : AV := .tup [prAV r.1, .lit (.int .i64 r.2.1), .lit (.int .i64 r.2.2)]
theorem fldR_len (b : List UInt8) (u : Nat) : (fldR b u).1.length ≤ 1024 := rdF_len _
theorem numR_lt (b : List UInt8) (u : Nat) : (numR b u).1 ≤ 281474976710656 := by
 unfold numR
 rcases rdS_bad (b.drop u) with h | ⟨e, h, _⟩
 ·exact (rdS_ok (b.drop u) (n := (rdS (b.drop u)).1) (u := (rdS (b.drop u)).2.1) (by rw [← h])).1
 ·rw [h]; simp
set_option maxHeartbeats 8000000 in
theorem pDec_spec (b : List UInt8) (hb : b.length ≤ 1000000) (d k : Nat) : ACall Tryz.prog 209 [.slice none (b.map byteAV)] k [(d, bitsG)] (decPAV (decP b)) [] := by
 have c1 := rnum_spec b 0 (Nat.zero_le _) hb
 have hu1 := numR_le (b := b) (u := 0) (Nat.zero_le _)
 have hl1 := numR_lt b 0
 unfold decP
 generalize numR b 0 = R at *
 obtain ⟨kn, u, e⟩ := R
 simp only at c1 hu1 hl1 ⊢
 by_cases he : e ≠ 0
 ·rw [if_pos he]
  have he' : ((e : Int) == 0) = false := by rw [beq_eq_false_iff_ne]; omega
  have he'' : ((e : Int) != 0) = true := by rw [bne, he']; rfl
  simp only [decPAV, prAV, zeroPr]
  clear he
  refine Bd Tryz.func209 Tryz.ntmps209 fun σ N hp hpn hk hkn hfree => ?_
  obtain ⟨hd, hdn⟩ := HD0 hp hpn; clear hp hpn
  have hcs := And.intro (c1 (N + 5)) True.intro
  clear c1
  exact WL
 have he0 : e = 0 := by omega
 subst he0
 rw [if_neg (by omega)]
 clear he
 by_cases hk : kn = 1 ∨ kn = 2 ∨ kn = 3
 ·rw [if_pos hk]
  by_cases hs : b.length - u < 8
  ·rw [if_pos hs]
   have c2 := rmask_short b u hu1 hb hs
   simp only [decPAV, prAV, zeroPr]
   rcases hk with rfl | rfl | rfl
   all_goals (
    refine Bd Tryz.func209 Tryz.ntmps209 fun σ N hp hpn hk hkn hfree => ?_
    obtain ⟨hd, hdn⟩ := HD0 hp hpn; clear hp hpn
    have hcs := And.intro (c1 (N + 5)) (And.intro (c2 (N + 5)) True.intro)
    clear c1 c2
    exact WL)
  ·rw [if_neg hs]
   have c2 := rmask_spec b u hb (by omega)
   have hm : be8 ((b.drop u).take 8) < 18446744073709551616 := by
    have := be8_bound (L := (b.drop u).take 8) (i := 8) (by rw [List.length_take, List.length_drop]; omega) (Nat.le_refl _)
    rw [List.take_of_length_le (i := 8) (l := (b.drop u).take 8) (by rw [List.length_take]; omega)] at this
    exact this.1
   generalize be8 ((b.drop u).take 8) = m at *
   have c3 := predValid_spec ⟨kn, m, 0, 0, [], 0⟩ ⟨by simp only; omega, by simp only; omega, by simp⟩ d
   unfold finP
   cases hv : predB ⟨kn, m, 0, 0, [], 0⟩ with
   | false =>
    rw [hv] at c3
    simp only [decPAV, prAV, zeroPr, Bool.false_eq_true, if_false] at *
    rcases hk with rfl | rfl | rfl
    all_goals (
     refine Bd Tryz.func209 Tryz.ntmps209 fun σ N hp hpn hk hkn hfree => ?_
     obtain ⟨hd, hdn⟩ := HD0 hp hpn; clear hp hpn
     have hcs := And.intro (c1 (N + 5)) (And.intro (c2 (N + 5)) (And.intro c3 True.intro))
     clear c1 c2 c3
     exact WL)
   | true =>
    rw [hv] at c3
    simp only [decPAV, prAV, if_true] at *
    rcases hk with rfl | rfl | rfl
    all_goals (
     refine Bd Tryz.func209 Tryz.ntmps209 fun σ N hp hpn hk hkn hfree => ?_
     obtain ⟨hd, hdn⟩ := HD0 hp hpn; clear hp hpn
     have hcs := And.intro (c1 (N + 5)) (And.intro (c2 (N + 5)) (And.intro c3 True.intro))
     clear c1 c2 c3
     exact WL)
 rw [if_neg hk]
 have n1 : ((kn : Int) == 1) = false := by rw [beq_eq_false_iff_ne]; omega
 have n2 : ((kn : Int) == 2) = false := by rw [beq_eq_false_iff_ne]; omega
 have n3 : ((kn : Int) == 3) = false := by rw [beq_eq_false_iff_ne]; omega
 clear hk
 by_cases hk : kn = 4 ∨ kn = 5
 ·rw [if_pos hk]
  have c2 := rnum_spec b u hu1 hb
  have hu2 := numR_le (b := b) (u := u) hu1
  have hl2 := numR_lt b u
  generalize numR b u = R at *
  obtain ⟨f, u2, e2⟩ := R
  simp only at c2 hu2 hl2 ⊢
  by_cases he2 : e2 ≠ 0
  ·rw [if_pos he2]
   have c3 := rnum_off b u2 e2 he2
   have he' : ((e2 : Int) == 0) = false := by rw [beq_eq_false_iff_ne]; omega
   have he'' : ((e2 : Int) != 0) = true := by rw [bne, he']; rfl
   simp only [decPAV, prAV, zeroPr]
   clear he2
   rcases hk with rfl | rfl
   all_goals (
    refine Bd Tryz.func209 Tryz.ntmps209 fun σ N hp hpn hk hkn hfree => ?_
    obtain ⟨hd, hdn⟩ := HD0 hp hpn; clear hp hpn
    have hcs := And.intro (c1 (N + 5)) (And.intro (c2 (N + 5)) (And.intro (c3 (N + 5)) True.intro))
    clear c1 c2 c3
    exact WL)
  have he0 : e2 = 0 := by omega
  subst he0
  rw [if_neg (by omega)]
  clear he2
  have c3 := rnum_spec b u2 hu2 hb
  have hu3 := numR_le (b := b) (u := u2) hu2
  have hl3 := numR_lt b u2
  generalize numR b u2 = R at *
  obtain ⟨t, u3, e3⟩ := R
  simp only at c3 hu3 hl3 ⊢
  by_cases he3 : e3 ≠ 0
  ·rw [if_pos he3]
   have he' : ((e3 : Int) == 0) = false := by rw [beq_eq_false_iff_ne]; omega
   have he'' : ((e3 : Int) != 0) = true := by rw [bne, he']; rfl
   simp only [decPAV, prAV, zeroPr]
   clear he3
   rcases hk with rfl | rfl
   all_goals (
    refine Bd Tryz.func209 Tryz.ntmps209 fun σ N hp hpn hk hkn hfree => ?_
    obtain ⟨hd, hdn⟩ := HD0 hp hpn; clear hp hpn
    have hcs := And.intro (c1 (N + 5)) (And.intro (c2 (N + 5)) (And.intro (c3 (N + 5)) True.intro))
    clear c1 c2 c3
    exact WL)
  have he0 : e3 = 0 := by omega
  subst he0
  rw [if_neg (by omega)]
  clear he3
  have c4 := predValid_spec ⟨kn, 0, f, t, [], 0⟩ ⟨by simp, by simp, by simp⟩ d
  unfold finP
  cases hv : predB ⟨kn, 0, f, t, [], 0⟩ with
  | false =>
   rw [hv] at c4
   simp only [decPAV, prAV, zeroPr, Bool.false_eq_true, if_false] at *
   rcases hk with rfl | rfl
   all_goals (
    refine Bd Tryz.func209 Tryz.ntmps209 fun σ N hp hpn hk hkn hfree => ?_
    obtain ⟨hd, hdn⟩ := HD0 hp hpn; clear hp hpn
    have hcs := And.intro (c1 (N + 5)) (And.intro (c2 (N + 5)) (And.intro (c3 (N + 5)) (And.intro c4 True.intro)))
    clear c1 c2 c3 c4
    exact WL)
  | true =>
   rw [hv] at c4
   simp only [decPAV, prAV, if_true] at *
   rcases hk with rfl | rfl
   all_goals (
    refine Bd Tryz.func209 Tryz.ntmps209 fun σ N hp hpn hk hkn hfree => ?_
    obtain ⟨hd, hdn⟩ := HD0 hp hpn; clear hp hpn
    have hcs := And.intro (c1 (N + 5)) (And.intro (c2 (N + 5)) (And.intro (c3 (N + 5)) (And.intro c4 True.intro)))
    clear c1 c2 c3 c4
    exact WL)
 rw [if_neg hk]
 have n4 : ((kn : Int) == 4) = false := by rw [beq_eq_false_iff_ne]; omega
 have n5 : ((kn : Int) == 5) = false := by rw [beq_eq_false_iff_ne]; omega
 clear hk
 by_cases hk : kn = 6
 ·subst hk
  rw [if_pos rfl]
  have c2 := rname_spec b u hu1 hb
  have hu2 := fldR_le (b := b) (u := u) hu1
  have hl2 := fldR_len b u
  generalize fldR b u = R at *
  obtain ⟨f, u2, e2⟩ := R
  simp only at c2 hu2 hl2 ⊢
  by_cases he2 : e2 ≠ 0
  ·rw [if_pos he2]
   have he' : ((e2 : Int) == 0) = false := by rw [beq_eq_false_iff_ne]; omega
   have he'' : ((e2 : Int) != 0) = true := by rw [bne, he']; rfl
   simp only [decPAV, prAV, zeroPr]
   clear he2
   refine Bd Tryz.func209 Tryz.ntmps209 fun σ N hp hpn hk hkn hfree => ?_
   obtain ⟨hd, hdn⟩ := HD0 hp hpn; clear hp hpn
   have hcs := And.intro (c1 (N + 5)) (And.intro (c2 (N + 5)) True.intro)
   clear c1 c2
   exact WL
  have he0 : e2 = 0 := by omega
  subst he0
  rw [if_neg (by omega)]
  clear he2
  have c4 := predValid_spec ⟨6, 0, 0, 0, f, 0⟩ ⟨by simp, by simp, by simp only; omega⟩ d
  unfold finP
  cases hv : predB ⟨6, 0, 0, 0, f, 0⟩ with
  | false =>
   rw [hv] at c4
   simp only [decPAV, prAV, zeroPr, Bool.false_eq_true, if_false] at *
   refine Bd Tryz.func209 Tryz.ntmps209 fun σ N hp hpn hk hkn hfree => ?_
   obtain ⟨hd, hdn⟩ := HD0 hp hpn; clear hp hpn
   have hcs := And.intro (c1 (N + 5)) (And.intro (c2 (N + 5)) (And.intro c4 True.intro))
   clear c1 c2 c4
   exact WL
  | true =>
   rw [hv] at c4
   simp only [decPAV, prAV, if_true] at *
   refine Bd Tryz.func209 Tryz.ntmps209 fun σ N hp hpn hk hkn hfree => ?_
   obtain ⟨hd, hdn⟩ := HD0 hp hpn; clear hp hpn
   have hcs := And.intro (c1 (N + 5)) (And.intro (c2 (N + 5)) (And.intro c4 True.intro))
   clear c1 c2 c4
   exact WL
 rw [if_neg hk]
 have n6 : ((kn : Int) == 6) = false := by rw [beq_eq_false_iff_ne]; omega
 clear hk
 by_cases hk : kn = 7
 ·subst hk
  rw [if_pos rfl]
  have c2 := rnum_spec b u hu1 hb
  have hu2 := numR_le (b := b) (u := u) hu1
  have hl2 := numR_lt b u
  generalize numR b u = R at *
  obtain ⟨f, u2, e2⟩ := R
  simp only at c2 hu2 hl2 ⊢
  by_cases he2 : e2 ≠ 0
  ·rw [if_pos he2]
   have he' : ((e2 : Int) == 0) = false := by rw [beq_eq_false_iff_ne]; omega
   have he'' : ((e2 : Int) != 0) = true := by rw [bne, he']; rfl
   simp only [decPAV, prAV, zeroPr]
   clear he2
   refine Bd Tryz.func209 Tryz.ntmps209 fun σ N hp hpn hk hkn hfree => ?_
   obtain ⟨hd, hdn⟩ := HD0 hp hpn; clear hp hpn
   have hcs := And.intro (c1 (N + 5)) (And.intro (c2 (N + 5)) True.intro)
   clear c1 c2
   exact WL
  have he0 : e2 = 0 := by omega
  subst he0
  rw [if_neg (by omega)]
  clear he2
  have c4 := predValid_spec ⟨7, 0, 0, 0, [], f⟩ ⟨by simp, by simp, by simp⟩ d
  unfold finP
  cases hv : predB ⟨7, 0, 0, 0, [], f⟩ with
  | false =>
   rw [hv] at c4
   simp only [decPAV, prAV, zeroPr, Bool.false_eq_true, if_false] at *
   refine Bd Tryz.func209 Tryz.ntmps209 fun σ N hp hpn hk hkn hfree => ?_
   obtain ⟨hd, hdn⟩ := HD0 hp hpn; clear hp hpn
   have hcs := And.intro (c1 (N + 5)) (And.intro (c2 (N + 5)) (And.intro c4 True.intro))
   clear c1 c2 c4
   exact WL
  | true =>
   rw [hv] at c4
   simp only [decPAV, prAV, if_true] at *
   refine Bd Tryz.func209 Tryz.ntmps209 fun σ N hp hpn hk hkn hfree => ?_
   obtain ⟨hd, hdn⟩ := HD0 hp hpn; clear hp hpn
   have hcs := And.intro (c1 (N + 5)) (And.intro (c2 (N + 5)) (And.intro c4 True.intro))
   clear c1 c2 c4
   exact WL
 rw [if_neg hk]
 have n7 : ((kn : Int) == 7) = false := by rw [beq_eq_false_iff_ne]; omega
 clear hk
 simp only [decPAV, prAV, zeroPr]
 refine Bd Tryz.func209 Tryz.ntmps209 fun σ N hp hpn hk hkn hfree => ?_
 obtain ⟨hd, hdn⟩ := HD0 hp hpn; clear hp hpn
 have hcs := And.intro (c1 (N + 5)) True.intro
 clear c1
 exact WL

theorem numR_bad {b : List UInt8} {u : Nat} (h : (numR b u).2.2 ≠ 0) : (numR b u).1 = 0 := by
 unfold numR at h ⊢
 rcases rdS_bad (b.drop u) with h' | ⟨e, h', _⟩
 ·exact absurd h' h
 ·rw [h']
theorem rdF_bad {b : List UInt8} (h : (rdF b).2.2 ≠ 0) : (rdF b).1 = [] := by
 unfold rdF at h ⊢
 split at h
 ·rename_i h1; rw [if_pos h1]
 ·rename_i h1
  rw [if_neg h1]
  split at h
  ·rename_i h2; rw [if_pos h2]
  ·rename_i h2
   rw [if_neg h2]
   split at h
   ·rename_i h3; rw [if_pos h3]
   ·simp at h
theorem fldR_bad {b : List UInt8} {u : Nat} (h : (fldR b u).2.2 ≠ 0) : (fldR b u).1 = [] := rdF_bad h
set_option maxHeartbeats 8000000 in
theorem rDec_other (b : List UInt8) (hb : b.length ≤ 1000000) (kn u e : Nat) (hR : numR b 0 = (kn, u, e)) (hu1 : u ≤ b.length) (hk : ¬ (kn = 1 ∨ kn = 2 ∨ kn = 3)) (k : Nat) : ACall Tryz.prog 167 [.slice none (b.map byteAV)] k [] (decPAV (decP b)) [] := by
 have c1 := RNum_spec b 0 (Nat.zero_le _) hb
 have hbad := numR_bad (b := b) (u := 0)
 unfold decP
 rw [hR] at *
 simp only at c1 hbad ⊢
 clear hR
 rw [if_neg hk]
 have n1 : ((kn : Int) == 1) = false := by rw [beq_eq_false_iff_ne]; omega
 have n2 : ((kn : Int) == 2) = false := by rw [beq_eq_false_iff_ne]; omega
 have n3 : ((kn : Int) == 3) = false := by rw [beq_eq_false_iff_ne]; omega
 clear hk
 by_cases he : e ≠ 0
 ·rw [if_pos he]
  obtain rfl := hbad he
  clear hbad
  have c2 := RFail1 b u e he 6
  have c3 := refPred_spec ⟨0, 0, 0, 0, [], 0⟩ ⟨by decide, by decide, by decide⟩
  rw [show predB ⟨0, 0, 0, 0, [], 0⟩ = false from by decide] at c3
  have c4 := RFail1 b u e he 5
  have he' : ((e : Int) == 0) = false := by rw [beq_eq_false_iff_ne]; omega
  have he'' : ((e : Int) != 0) = true := by rw [bne, he']; rfl
  simp only [decPAV, prAV, zeroPr] at *
  clear he
  refine Bd Tryz.func167 Tryz.ntmps167 fun σ N hp hpn hk hkn hfree => ?_
  have hcs := And.intro (c1 (N + 5)) (And.intro (c2 (N + 5)) (And.intro c3 (And.intro (c4 (N + 5)) True.intro)))
  clear c1 c2 c3 c4
  exact WL
 have he0 : e = 0 := by omega
 subst he0
 rw [if_neg (by omega)]
 clear he hbad
 by_cases hk : kn = 4 ∨ kn = 5
 ·rw [if_pos hk]
  have c2 := RNum_spec b u hu1 hb
  have hu2 := numR_le (b := b) (u := u) hu1
  have hbad := numR_bad (b := b) (u := u)
  generalize numR b u = R at *
  obtain ⟨f, u2, e2⟩ := R
  simp only at c2 hu2 hbad ⊢
  by_cases he2 : e2 ≠ 0
  ·rw [if_pos he2]
   obtain rfl := hbad he2
   clear hbad
   have c3 := RNum_off b u2 e2 he2
   have he' : ((e2 : Int) == 0) = false := by rw [beq_eq_false_iff_ne]; omega
   have he'' : ((e2 : Int) != 0) = true := by rw [bne, he']; rfl
   have c8 := refPred_spec ⟨kn, 0, 0, 0, [], 0⟩ ⟨by simp, by simp, by simp⟩
   cases hv : predB ⟨kn, 0, 0, 0, [], 0⟩ with
   | false =>
    rw [hv] at c8
    have c9 := RFail1 b u2 e2 (by omega) 5
    simp only [decPAV, prAV, zeroPr] at *
    rcases hk with rfl | rfl
    all_goals (
     refine Bd Tryz.func167 Tryz.ntmps167 fun σ N hp hpn hk hkn hfree => ?_
     have hcs := And.intro (c1 (N + 5)) (And.intro (c2 (N + 5)) (And.intro (c3 (N + 5)) (And.intro c8 (And.intro (c9 (N + 5)) True.intro))))
     clear c1 c2 c3 c8 c9
     exact WL)
   | true =>
    rw [hv] at c8
    simp only [decPAV, prAV, zeroPr] at *
    rcases hk with rfl | rfl
    all_goals (
     refine Bd Tryz.func167 Tryz.ntmps167 fun σ N hp hpn hk hkn hfree => ?_
     have hcs := And.intro (c1 (N + 5)) (And.intro (c2 (N + 5)) (And.intro (c3 (N + 5)) (And.intro c8 True.intro)))
     clear c1 c2 c3 c8
     exact WL)
  have he0 : e2 = 0 := by omega
  subst he0
  rw [if_neg (by omega)]
  clear he2 hbad
  have c3 := RNum_spec b u2 hu2 hb
  have hu3 := numR_le (b := b) (u := u2) hu2
  have hbad := numR_bad (b := b) (u := u2)
  generalize numR b u2 = R at *
  obtain ⟨t, u3, e3⟩ := R
  simp only at c3 hu3 hbad ⊢
  by_cases he3 : e3 ≠ 0
  ·rw [if_pos he3]
   obtain rfl := hbad he3
   clear hbad
   have he' : ((e3 : Int) == 0) = false := by rw [beq_eq_false_iff_ne]; omega
   have he'' : ((e3 : Int) != 0) = true := by rw [bne, he']; rfl
   have c8 := refPred_spec ⟨kn, 0, f, 0, [], 0⟩ ⟨by simp, by simp, by simp⟩
   cases hv : predB ⟨kn, 0, f, 0, [], 0⟩ with
   | false =>
    rw [hv] at c8
    have c9 := RFail1 b u3 e3 (by omega) 5
    simp only [decPAV, prAV, zeroPr] at *
    rcases hk with rfl | rfl
    all_goals (
     refine Bd Tryz.func167 Tryz.ntmps167 fun σ N hp hpn hk hkn hfree => ?_
     have hcs := And.intro (c1 (N + 5)) (And.intro (c2 (N + 5)) (And.intro (c3 (N + 5)) (And.intro c8 (And.intro (c9 (N + 5)) True.intro))))
     clear c1 c2 c3 c8 c9
     exact WL)
   | true =>
    rw [hv] at c8
    simp only [decPAV, prAV, zeroPr] at *
    rcases hk with rfl | rfl
    all_goals (
     refine Bd Tryz.func167 Tryz.ntmps167 fun σ N hp hpn hk hkn hfree => ?_
     have hcs := And.intro (c1 (N + 5)) (And.intro (c2 (N + 5)) (And.intro (c3 (N + 5)) (And.intro c8 True.intro)))
     clear c1 c2 c3 c8
     exact WL)
  have he0 : e3 = 0 := by omega
  subst he0
  rw [if_neg (by omega)]
  clear he3 hbad
  have c8 := refPred_spec ⟨kn, 0, f, t, [], 0⟩ ⟨by simp, by simp, by simp⟩
  cases hv : predB ⟨kn, 0, f, t, [], 0⟩ with
  | false =>
   unfold finP
   rw [hv]
   rw [hv] at c8
   have c9 := RFail0 b u3 5
   simp only [decPAV, prAV, zeroPr, Bool.false_eq_true, if_false] at *
   rcases hk with rfl | rfl
   all_goals (
    refine Bd Tryz.func167 Tryz.ntmps167 fun σ N hp hpn hk hkn hfree => ?_
    have hcs := And.intro (c1 (N + 5)) (And.intro (c2 (N + 5)) (And.intro (c3 (N + 5)) (And.intro c8 (And.intro (c9 (N + 5)) True.intro))))
    clear c1 c2 c3 c8 c9
    exact WL)
  | true =>
   unfold finP
   rw [hv]
   rw [hv] at c8
   simp only [decPAV, prAV, zeroPr, if_true] at *
   rcases hk with rfl | rfl
   all_goals (
    refine Bd Tryz.func167 Tryz.ntmps167 fun σ N hp hpn hk hkn hfree => ?_
    have hcs := And.intro (c1 (N + 5)) (And.intro (c2 (N + 5)) (And.intro (c3 (N + 5)) (And.intro c8 True.intro)))
    clear c1 c2 c3 c8
    exact WL)
 rw [if_neg hk]
 have n4 : ((kn : Int) == 4) = false := by rw [beq_eq_false_iff_ne]; omega
 have n5 : ((kn : Int) == 5) = false := by rw [beq_eq_false_iff_ne]; omega
 clear hk
 by_cases hk : kn = 6
 ·subst hk
  rw [if_pos rfl]
  have c2 := RField_spec b u hu1 hb
  have hu2 := fldR_le (b := b) (u := u) hu1
  have hl2 := fldR_len b u
  have hbad := fldR_bad (b := b) (u := u)
  generalize fldR b u = R at *
  obtain ⟨f, u2, e2⟩ := R
  simp only at c2 hu2 hl2 hbad ⊢
  by_cases he2 : e2 ≠ 0
  ·rw [if_pos he2]
   obtain rfl := hbad he2
   clear hbad
   have he' : ((e2 : Int) == 0) = false := by rw [beq_eq_false_iff_ne]; omega
   have he'' : ((e2 : Int) != 0) = true := by rw [bne, he']; rfl
   have c8 := refPred_spec ⟨6, 0, 0, 0, [], 0⟩ ⟨by simp, by simp, by simp⟩
   cases hv : predB ⟨6, 0, 0, 0, [], 0⟩ with
   | false =>
    rw [hv] at c8
    have c9 := RFail1 b u2 e2 (by omega) 5
    simp only [decPAV, prAV, zeroPr] at *
    refine Bd Tryz.func167 Tryz.ntmps167 fun σ N hp hpn hk hkn hfree => ?_
    have hcs := And.intro (c1 (N + 5)) (And.intro (c2 (N + 5)) (And.intro c8 (And.intro (c9 (N + 5)) True.intro)))
    clear c1 c2 c8 c9
    exact WL
   | true =>
    rw [hv] at c8
    simp only [decPAV, prAV, zeroPr] at *
    refine Bd Tryz.func167 Tryz.ntmps167 fun σ N hp hpn hk hkn hfree => ?_
    have hcs := And.intro (c1 (N + 5)) (And.intro (c2 (N + 5)) (And.intro c8 True.intro))
    clear c1 c2 c8
    exact WL
  have he0 : e2 = 0 := by omega
  subst he0
  rw [if_neg (by omega)]
  clear he2 hbad
  have c8 := refPred_spec ⟨6, 0, 0, 0, f, 0⟩ ⟨by simp, by simp, by simp only; omega⟩
  cases hv : predB ⟨6, 0, 0, 0, f, 0⟩ with
  | false =>
   unfold finP
   rw [hv]
   rw [hv] at c8
   have c9 := RFail0 b u2 5
   simp only [decPAV, prAV, zeroPr, Bool.false_eq_true, if_false] at *
   refine Bd Tryz.func167 Tryz.ntmps167 fun σ N hp hpn hk hkn hfree => ?_
   have hcs := And.intro (c1 (N + 5)) (And.intro (c2 (N + 5)) (And.intro c8 (And.intro (c9 (N + 5)) True.intro)))
   clear c1 c2 c8 c9
   exact WL
  | true =>
   unfold finP
   rw [hv]
   rw [hv] at c8
   simp only [decPAV, prAV, zeroPr, if_true] at *
   refine Bd Tryz.func167 Tryz.ntmps167 fun σ N hp hpn hk hkn hfree => ?_
   have hcs := And.intro (c1 (N + 5)) (And.intro (c2 (N + 5)) (And.intro c8 True.intro))
   clear c1 c2 c8
   exact WL
 rw [if_neg hk]
 have n6 : ((kn : Int) == 6) = false := by rw [beq_eq_false_iff_ne]; omega
 clear hk
 by_cases hk : kn = 7
 ·subst hk
  rw [if_pos rfl]
  have c2 := RNum_spec b u hu1 hb
  have hu2 := numR_le (b := b) (u := u) hu1
  have hbad := numR_bad (b := b) (u := u)
  generalize numR b u = R at *
  obtain ⟨f, u2, e2⟩ := R
  simp only at c2 hu2 hbad ⊢
  by_cases he2 : e2 ≠ 0
  ·rw [if_pos he2]
   obtain rfl := hbad he2
   clear hbad
   have he' : ((e2 : Int) == 0) = false := by rw [beq_eq_false_iff_ne]; omega
   have he'' : ((e2 : Int) != 0) = true := by rw [bne, he']; rfl
   have c8 := refPred_spec ⟨7, 0, 0, 0, [], 0⟩ ⟨by simp, by simp, by simp⟩
   cases hv : predB ⟨7, 0, 0, 0, [], 0⟩ with
   | false =>
    rw [hv] at c8
    have c9 := RFail1 b u2 e2 (by omega) 5
    simp only [decPAV, prAV, zeroPr] at *
    refine Bd Tryz.func167 Tryz.ntmps167 fun σ N hp hpn hk hkn hfree => ?_
    have hcs := And.intro (c1 (N + 5)) (And.intro (c2 (N + 5)) (And.intro c8 (And.intro (c9 (N + 5)) True.intro)))
    clear c1 c2 c8 c9
    exact WL
   | true =>
    rw [hv] at c8
    simp only [decPAV, prAV, zeroPr] at *
    refine Bd Tryz.func167 Tryz.ntmps167 fun σ N hp hpn hk hkn hfree => ?_
    have hcs := And.intro (c1 (N + 5)) (And.intro (c2 (N + 5)) (And.intro c8 True.intro))
    clear c1 c2 c8
    exact WL
  have he0 : e2 = 0 := by omega
  subst he0
  rw [if_neg (by omega)]
  clear he2 hbad
  have c8 := refPred_spec ⟨7, 0, 0, 0, [], f⟩ ⟨by simp, by simp, by simp⟩
  cases hv : predB ⟨7, 0, 0, 0, [], f⟩ with
  | false =>
   unfold finP
   rw [hv]
   rw [hv] at c8
   have c9 := RFail0 b u2 5
   simp only [decPAV, prAV, zeroPr, Bool.false_eq_true, if_false] at *
   refine Bd Tryz.func167 Tryz.ntmps167 fun σ N hp hpn hk hkn hfree => ?_
   have hcs := And.intro (c1 (N + 5)) (And.intro (c2 (N + 5)) (And.intro c8 (And.intro (c9 (N + 5)) True.intro)))
   clear c1 c2 c8 c9
   exact WL
  | true =>
   unfold finP
   rw [hv]
   rw [hv] at c8
   simp only [decPAV, prAV, zeroPr, if_true] at *
   refine Bd Tryz.func167 Tryz.ntmps167 fun σ N hp hpn hk hkn hfree => ?_
   have hcs := And.intro (c1 (N + 5)) (And.intro (c2 (N + 5)) (And.intro c8 True.intro))
   clear c1 c2 c8
   exact WL
 rw [if_neg hk]
 have n7 : ((kn : Int) == 7) = false := by rw [beq_eq_false_iff_ne]; omega
 have c2 := RFail0 b u 6
 have c3 := refPred_spec ⟨kn, 0, 0, 0, [], 0⟩ ⟨by simp, by simp, by simp⟩
 have hv : predB ⟨kn, 0, 0, 0, [], 0⟩ = false := by
  cases hq : predB ⟨kn, 0, 0, 0, [], 0⟩ with
  | false => rfl
  | true =>
   exfalso
   have hne : ∀ j : Nat, (kn : Int) = (j : Int) → kn = j := fun j h => by omega
   simp only [beq_eq_false_iff_ne] at n1 n2 n3 n4 n5 n6 n7
   unfold predB at hq
   simp only [n1, n2, n3, n4, n5, n6, n7, if_false] at hq
   cases hq
 rw [hv] at c3
 have c4 := RFail1 b u 6 (by decide) 5
 have e6 : ((6 : Nat) : Int) = 6 := rfl
 simp only [decPAV, prAV, zeroPr, RdBox, e6] at *
 clear hk
 refine Bd Tryz.func167 Tryz.ntmps167 fun σ N hp hpn hk hkn hfree => ?_
 have hcs := And.intro (c1 (N + 5)) (And.intro (c2 (N + 5)) (And.intro c3 (And.intro (c4 (N + 5)) True.intro)))
 clear c1 c2 c3 c4
 exact WL
set_option maxHeartbeats 8000000 in
theorem rDec_mask (b : List UInt8) (_hb : b.length ≤ 1000000) (kn u : Nat) (c1 : ∀ d k : Nat, ACall Tryz.prog 94 [.ptr d [] 0] k [(d, RdBox b 0 0)] (.lit (.int .i64 kn)) [(d, RdBox b u 0)]) (hk : kn = 1 ∨ kn = 2 ∨ kn = 3)
  (L : List UInt8) (hlen : L.length = 8) (u2 e2 : Nat) (c2 : ∀ d k : Nat, ACall Tryz.prog 165 [.ptr d [] 0, .lit (.int .i64 8)] k [(d, RdBox b u 0)] (.slice none (L.map byteAV)) [(d, RdBox b u2 e2)])
  (R : Pr × Nat × Nat) (hR : R = if e2 ≠ 0 then (zeroPr, 0, e2) else finP ⟨kn, be8 L, 0, 0, [], 0⟩ u2) (k : Nat) : ACall Tryz.prog 167 [.slice none (b.map byteAV)] k [] (decPAV R) [] := by
 have h0b : be8 (List.take 0 L) = 0 := by simp [be8]
 have hknI : (kn : Int) = 1 ∨ (kn : Int) = 2 ∨ (kn : Int) = 3 := by omega
 obtain ⟨kz, hkz⟩ : ∃ z : Int, (kn : Int) = z := ⟨_, rfl⟩
 rw [hkz] at c1 hR hknI
 have hz : ∀ z : Int, z = kz → True := fun _ _ => trivial
 rcases hknI with rfl | rfl | rfl
 ·refine Bd Tryz.func167 Tryz.ntmps167 fun σ N hp hpn hk hkn hfree => ?_
  have hcs := And.intro (c1 (N + 5)) (And.intro (c2 (N + 5)) True.intro)
  clear c1 c2
  refine Wk ?_
  refine go_loopF mixed (by kernel_rfl) [8, 25, 26, 27, 28, 29, 30, 31, 32, 33, 34, 35, 36, 37, 38] [N+7+3] (fun m_ s_ σ_ n_ => ∃ (i : Nat) (m : Nat), m_ = 8 - i ∧ s_ 8 = .lit (.int .i64 i) ∧ σ_ (N+7+3) = .box 110 (.agg [.lit (.int .i64 1), .lit (.int .u64 m), .lit (.int .i64 0), .lit (.int .i64 0), .lit (.string ByteArray.empty), .lit (.int .i64 0)]) ∧ (i ≤ 8) ∧ (be8 (L.take i) = m)) ⟨_, 0, 0, rfl, WF, WF, WC, WC⟩ ?_
  intro m_1 s_1 σ_1 n_1 hs_1 hf_1 hn_1 hI_1
  obtain ⟨i, m, hm_1, h1_8, e1_0, hi, hm⟩ := hI_1
  have h1_2 := KS hs_1 2
  have h1_3 := KS hs_1 3
  have h1_4 := KS hs_1 4
  have h1_5 := KS hs_1 5
  have h1_6 := KS hs_1 6
  have h1_7 := KS hs_1 7
  have h1_16 := KS hs_1 16
  have k1_0 := KE hf_1 (N)
  have k1_1 := KE hf_1 (N + 3 + 2)
  have hlow := KL (N := N) (σ := σ) hf_1
  clear h0b
  have hm1 := (be8_bound hlen hi).1
  have hm2 := (be8_bound hlen hi).2
  rw [hm] at hm1 hm2
  by_cases hi8 : i = 8
  ·subst hi8
   rw [List.take_of_length_le (by omega)] at hm
   rw [hm] at hR
   have c8 := refPred_spec ⟨1, m, 0, 0, [], 0⟩ ⟨by simp only; omega, by simp only; omega, by simp⟩
   by_cases he2 : e2 ≠ 0
   ·rw [if_pos he2] at hR
    subst hR
    have c9 := RFail1 b u2 e2 he2 5
    have he' : ((e2 : Int) == 0) = false := by rw [beq_eq_false_iff_ne]; omega
    have he'' : ((e2 : Int) != 0) = true := by rw [bne, he']; rfl
    cases hv : predB ⟨1, m, 0, 0, [], 0⟩ with
    | false =>
     rw [hv] at c8
     simp only [decPAV, prAV, zeroPr] at *
     have hcs := And.intro c8 (And.intro (c9 (N + 5)) True.intro)
     clear c8 c9
     exact WL
    | true =>
     rw [hv] at c8
     simp only [decPAV, prAV, zeroPr] at *
     have hcs := And.intro c8 True.intro
     clear c8 c9
     exact WL
   ·obtain rfl : e2 = 0 := by omega
    rw [if_neg he2] at hR
    clear he2
    unfold finP at hR
    have c9 := RFail0 b u2 5
    cases hv : predB ⟨1, m, 0, 0, [], 0⟩ with
    | false =>
     rw [hv, if_neg (by decide)] at hR
     subst hR
     rw [hv] at c8
     simp only [decPAV, prAV, zeroPr] at *
     have hcs := And.intro c8 (And.intro (c9 (N + 5)) True.intro)
     clear c8 c9
     exact WL
    | true =>
     rw [hv, if_pos rfl] at hR
     subst hR
     rw [hv] at c8
     simp only [decPAV, prAV] at *
     have hcs := And.intro c8 True.intro
     clear c8 c9
     exact WL
  ·have hil : i < L.length := by omega
   obtain ⟨x, hx⟩ : ∃ x, L[i] = x := ⟨_, rfl⟩
   have hxx : byteAV x = .lit (.int .u8 x.toNat) := rfl
   have hxl := x.toNat_lt
   have hm3 := be8_take hil
   rw [hm, hx] at hm3
   have w1 : IntKind.u64.wrap ((m : Int) * 256) = (m : Int) * 256 := wrap_u64r (by omega) (by omega)
   have w0 : IntKind.u64.wrap (256 * (m : Int)) = 256 * (m : Int) := wrap_u64r (by omega) (by omega)
   have w2 : IntKind.u64.wrap (x.toNat : Int) = (x.toNat : Int) := wrap_u64r (by omega) (by omega)
   have w3 : IntKind.u64.wrap (256 * (m : Int) + (x.toNat : Int)) = 256 * (m : Int) + (x.toNat : Int) := wrap_u64r (by omega) (by omega)
   have hil8 : (i : Int) < 8 := by omega
   clear hm
   refine Wk ?_
   exact ⟨WS, WG, WN, _, (show 8 - (i + 1) < m_1 by omega), i + 1, 256 * m + x.toNat, rfl, WF, WF, WC, WC⟩
 ·refine Bd Tryz.func167 Tryz.ntmps167 fun σ N hp hpn hk hkn hfree => ?_
  have hcs := And.intro (c1 (N + 5)) (And.intro (c2 (N + 5)) True.intro)
  clear c1 c2
  refine Wk ?_
  refine go_loopF mixed (by kernel_rfl) [8, 25, 26, 27, 28, 29, 30, 31, 32, 33, 34, 35, 36, 37, 38] [N+7+3] (fun m_ s_ σ_ n_ => ∃ (i : Nat) (m : Nat), m_ = 8 - i ∧ s_ 8 = .lit (.int .i64 i) ∧ σ_ (N+7+3) = .box 110 (.agg [.lit (.int .i64 2), .lit (.int .u64 m), .lit (.int .i64 0), .lit (.int .i64 0), .lit (.string ByteArray.empty), .lit (.int .i64 0)]) ∧ (i ≤ 8) ∧ (be8 (L.take i) = m)) ⟨_, 0, 0, rfl, WF, WF, WC, WC⟩ ?_
  intro m_2 s_2 σ_2 n_2 hs_2 hf_2 hn_2 hI_2
  obtain ⟨i, m, hm_2, h2_8, e2_0, hi, hm⟩ := hI_2
  have h2_2 := KS hs_2 2
  have h2_3 := KS hs_2 3
  have h2_4 := KS hs_2 4
  have h2_5 := KS hs_2 5
  have h2_6 := KS hs_2 6
  have h2_7 := KS hs_2 7
  have h2_16 := KS hs_2 16
  have k2_0 := KE hf_2 (N)
  have k2_1 := KE hf_2 (N + 3 + 2)
  have hlow := KL (N := N) (σ := σ) hf_2
  clear h0b
  have hm1 := (be8_bound hlen hi).1
  have hm2 := (be8_bound hlen hi).2
  rw [hm] at hm1 hm2
  by_cases hi8 : i = 8
  ·subst hi8
   rw [List.take_of_length_le (by omega)] at hm
   rw [hm] at hR
   have c8 := refPred_spec ⟨2, m, 0, 0, [], 0⟩ ⟨by simp only; omega, by simp only; omega, by simp⟩
   by_cases he2 : e2 ≠ 0
   ·rw [if_pos he2] at hR
    subst hR
    have c9 := RFail1 b u2 e2 he2 5
    have he' : ((e2 : Int) == 0) = false := by rw [beq_eq_false_iff_ne]; omega
    have he'' : ((e2 : Int) != 0) = true := by rw [bne, he']; rfl
    cases hv : predB ⟨2, m, 0, 0, [], 0⟩ with
    | false =>
     rw [hv] at c8
     simp only [decPAV, prAV, zeroPr] at *
     have hcs := And.intro c8 (And.intro (c9 (N + 5)) True.intro)
     clear c8 c9
     exact WL
    | true =>
     rw [hv] at c8
     simp only [decPAV, prAV, zeroPr] at *
     have hcs := And.intro c8 True.intro
     clear c8 c9
     exact WL
   ·obtain rfl : e2 = 0 := by omega
    rw [if_neg he2] at hR
    clear he2
    unfold finP at hR
    have c9 := RFail0 b u2 5
    cases hv : predB ⟨2, m, 0, 0, [], 0⟩ with
    | false =>
     rw [hv, if_neg (by decide)] at hR
     subst hR
     rw [hv] at c8
     simp only [decPAV, prAV, zeroPr] at *
     have hcs := And.intro c8 (And.intro (c9 (N + 5)) True.intro)
     clear c8 c9
     exact WL
    | true =>
     rw [hv, if_pos rfl] at hR
     subst hR
     rw [hv] at c8
     simp only [decPAV, prAV] at *
     have hcs := And.intro c8 True.intro
     clear c8 c9
     exact WL
  ·have hil : i < L.length := by omega
   obtain ⟨x, hx⟩ : ∃ x, L[i] = x := ⟨_, rfl⟩
   have hxx : byteAV x = .lit (.int .u8 x.toNat) := rfl
   have hxl := x.toNat_lt
   have hm3 := be8_take hil
   rw [hm, hx] at hm3
   have w1 : IntKind.u64.wrap ((m : Int) * 256) = (m : Int) * 256 := wrap_u64r (by omega) (by omega)
   have w0 : IntKind.u64.wrap (256 * (m : Int)) = 256 * (m : Int) := wrap_u64r (by omega) (by omega)
   have w2 : IntKind.u64.wrap (x.toNat : Int) = (x.toNat : Int) := wrap_u64r (by omega) (by omega)
   have w3 : IntKind.u64.wrap (256 * (m : Int) + (x.toNat : Int)) = 256 * (m : Int) + (x.toNat : Int) := wrap_u64r (by omega) (by omega)
   have hil8 : (i : Int) < 8 := by omega
   clear hm
   refine Wk ?_
   exact ⟨WS, WG, WN, _, (show 8 - (i + 1) < m_2 by omega), i + 1, 256 * m + x.toNat, rfl, WF, WF, WC, WC⟩
 ·refine Bd Tryz.func167 Tryz.ntmps167 fun σ N hp hpn hk hkn hfree => ?_
  have hcs := And.intro (c1 (N + 5)) (And.intro (c2 (N + 5)) True.intro)
  clear c1 c2
  refine Wk ?_
  refine go_loopF mixed (by kernel_rfl) [8, 25, 26, 27, 28, 29, 30, 31, 32, 33, 34, 35, 36, 37, 38] [N+7+3] (fun m_ s_ σ_ n_ => ∃ (i : Nat) (m : Nat), m_ = 8 - i ∧ s_ 8 = .lit (.int .i64 i) ∧ σ_ (N+7+3) = .box 110 (.agg [.lit (.int .i64 3), .lit (.int .u64 m), .lit (.int .i64 0), .lit (.int .i64 0), .lit (.string ByteArray.empty), .lit (.int .i64 0)]) ∧ (i ≤ 8) ∧ (be8 (L.take i) = m)) ⟨_, 0, 0, rfl, WF, WF, WC, WC⟩ ?_
  intro m_3 s_3 σ_3 n_3 hs_3 hf_3 hn_3 hI_3
  obtain ⟨i, m, hm_3, h3_8, e3_0, hi, hm⟩ := hI_3
  have h3_2 := KS hs_3 2
  have h3_3 := KS hs_3 3
  have h3_4 := KS hs_3 4
  have h3_5 := KS hs_3 5
  have h3_6 := KS hs_3 6
  have h3_7 := KS hs_3 7
  have h3_16 := KS hs_3 16
  have k3_0 := KE hf_3 (N)
  have k3_1 := KE hf_3 (N + 3 + 2)
  have hlow := KL (N := N) (σ := σ) hf_3
  clear h0b
  have hm1 := (be8_bound hlen hi).1
  have hm2 := (be8_bound hlen hi).2
  rw [hm] at hm1 hm2
  by_cases hi8 : i = 8
  ·subst hi8
   rw [List.take_of_length_le (by omega)] at hm
   rw [hm] at hR
   have c8 := refPred_spec ⟨3, m, 0, 0, [], 0⟩ ⟨by simp only; omega, by simp only; omega, by simp⟩
   by_cases he2 : e2 ≠ 0
   ·rw [if_pos he2] at hR
    subst hR
    have c9 := RFail1 b u2 e2 he2 5
    have he' : ((e2 : Int) == 0) = false := by rw [beq_eq_false_iff_ne]; omega
    have he'' : ((e2 : Int) != 0) = true := by rw [bne, he']; rfl
    cases hv : predB ⟨3, m, 0, 0, [], 0⟩ with
    | false =>
     rw [hv] at c8
     simp only [decPAV, prAV, zeroPr] at *
     have hcs := And.intro c8 (And.intro (c9 (N + 5)) True.intro)
     clear c8 c9
     exact WL
    | true =>
     rw [hv] at c8
     simp only [decPAV, prAV, zeroPr] at *
     have hcs := And.intro c8 True.intro
     clear c8 c9
     exact WL
   ·obtain rfl : e2 = 0 := by omega
    rw [if_neg he2] at hR
    clear he2
    unfold finP at hR
    have c9 := RFail0 b u2 5
    cases hv : predB ⟨3, m, 0, 0, [], 0⟩ with
    | false =>
     rw [hv, if_neg (by decide)] at hR
     subst hR
     rw [hv] at c8
     simp only [decPAV, prAV, zeroPr] at *
     have hcs := And.intro c8 (And.intro (c9 (N + 5)) True.intro)
     clear c8 c9
     exact WL
    | true =>
     rw [hv, if_pos rfl] at hR
     subst hR
     rw [hv] at c8
     simp only [decPAV, prAV] at *
     have hcs := And.intro c8 True.intro
     clear c8 c9
     exact WL
  ·have hil : i < L.length := by omega
   obtain ⟨x, hx⟩ : ∃ x, L[i] = x := ⟨_, rfl⟩
   have hxx : byteAV x = .lit (.int .u8 x.toNat) := rfl
   have hxl := x.toNat_lt
   have hm3 := be8_take hil
   rw [hm, hx] at hm3
   have w1 : IntKind.u64.wrap ((m : Int) * 256) = (m : Int) * 256 := wrap_u64r (by omega) (by omega)
   have w0 : IntKind.u64.wrap (256 * (m : Int)) = 256 * (m : Int) := wrap_u64r (by omega) (by omega)
   have w2 : IntKind.u64.wrap (x.toNat : Int) = (x.toNat : Int) := wrap_u64r (by omega) (by omega)
   have w3 : IntKind.u64.wrap (256 * (m : Int) + (x.toNat : Int)) = 256 * (m : Int) + (x.toNat : Int) := wrap_u64r (by omega) (by omega)
   have hil8 : (i : Int) < 8 := by omega
   clear hm
   refine Wk ?_
   exact ⟨WS, WG, WN, _, (show 8 - (i + 1) < m_3 by omega), i + 1, 256 * m + x.toNat, rfl, WF, WF, WC, WC⟩
theorem rDec_spec (b : List UInt8) (hb : b.length ≤ 1000000) (k : Nat) : ACall Tryz.prog 167 [.slice none (b.map byteAV)] k [] (decPAV (decP b)) [] := by
 have hu1 := numR_le (b := b) (u := 0) (Nat.zero_le _)
 obtain ⟨⟨kn, u, e⟩, hR⟩ : ∃ R, numR b 0 = R := ⟨_, rfl⟩
 rw [hR] at hu1
 simp only at hu1
 by_cases hk : kn = 1 ∨ kn = 2 ∨ kn = 3
 ·have c1 := RNum_spec b 0 (Nat.zero_le _) hb
  have hbad := numR_bad (b := b) (u := 0)
  rw [hR] at c1 hbad
  simp only at c1 hbad
  obtain rfl : e = 0 := by
   by_cases h : e = 0
   ·exact h
   ·have := hbad h; omega
  unfold decP
  rw [hR]
  simp only
  rw [if_neg (by omega), if_pos hk]
  by_cases hs : b.length - u < 8
  ·rw [if_pos hs]
   exact rDec_mask b hb kn u c1 hk (List.replicate 8 0) (by simp) u 3 (fun d k => RBytes_short b u hu1 hs hb d k) _ (by simp) k
  ·rw [if_neg hs]
   exact rDec_mask b hb kn u c1 hk ((b.drop u).take 8) (by rw [List.length_take, List.length_drop]; omega) (u + 8) 0 (fun d k => RBytes_spec b u (by omega) hb d k) _ (by simp) k
 ·exact rDec_other b hb kn u e hR hu1 hk k

theorem finP_ok (p : Pr) (hp : PrOk p) (u n : Nat) (hu : u ≤ n) : PrOk (finP p u).1 ∧ (finP p u).2.1 ≤ n := by
 unfold finP
 split
 ·exact ⟨hp, hu⟩
 ·exact ⟨zeroPr_ok, Nat.zero_le _⟩
theorem decP_ok (b : List UInt8) : PrOk (decP b).1 ∧ (decP b).2.1 ≤ b.length := by
 have h0 := numR_le (b := b) (u := 0) (Nat.zero_le _)
 have h1 := numR_le (b := b) h0
 have h2 := numR_le (b := b) h1
 have h3 := fldR_le (b := b) h0
 have z : ∀ e : Nat, PrOk (zeroPr, 0, e).1 ∧ ((zeroPr, 0, e) : Pr × Nat × Nat).2.1 ≤ b.length := fun e => ⟨zeroPr_ok, Nat.zero_le _⟩
 unfold decP
 split
 ·exact z _
 split
 ·split
  ·exact z _
  ·rename_i hs
   refine finP_ok _ ?_ _ _ (by omega)
   have := be8_bound (L := (b.drop (numR b 0).2.1).take 8) (i := 8) (by rw [List.length_take, List.length_drop]; omega) (Nat.le_refl _)
   rw [List.take_of_length_le (i := 8) (l := (b.drop (numR b 0).2.1).take 8) (by rw [List.length_take]; omega)] at this
   exact ⟨by simp only; omega, by simp only; omega, by simp⟩
 split
 ·split
  ·exact z _
  split
  ·exact z _
  ·exact finP_ok _ ⟨by simp, by simp, by simp⟩ _ _ h2
 split
 ·split
  ·exact z _
  ·exact finP_ok _ ⟨by simp, by simp, by have := fldR_len b (numR b 0).2.1; simp only; omega⟩ _ _ h3
 split
 ·split
  ·exact z _
  ·exact finP_ok _ ⟨by simp, by simp, by simp⟩ _ _ h1
 ·exact z _
def predR (b : List UInt8) (u : Nat) : Pr × Nat × Nat := ((decP (b.drop u)).1, u + (decP (b.drop u)).2.1, (decP (b.drop u)).2.2)
theorem predR_ok {b : List UInt8} {u : Nat} (h : u ≤ b.length) : PrOk (predR b u).1 ∧ (predR b u).2.1 ≤ b.length := by
 have := decP_ok (b.drop u)
 rw [List.length_drop] at this
 refine ⟨this.1, ?_⟩
 have := this.2
 unfold predR
 simp only
 omega
def crBox (b : List UInt8) (u e : Nat) : Ent := .box 270 (.agg [.agg [.slice none (b.map byteAV), .lit (.int .i64 u)], .lit (.int .i64 e)])
@[simp, go_sem] theorem crBox_ne (b : List UInt8) (u e : Nat) : (crBox b u e = .none) = False := by simp [crBox]
@[go_sem] theorem crBox_ren (b : List UInt8) (u e : Nat) (f : Nat → Option Nat) : (crBox b u e).ren f = crBox b u e := by
 simp only [crBox, ent_ren_box, AV.ren, AV.renl, renl_bytes, Option.bind_none]
attribute [go_sem high] crBox
theorem left_spec (b : List UInt8) (u e : Nat) (hu : u ≤ b.length) (_hb : b.length ≤ 1000000) (d k : Nat) :
  ACall Tryz.prog 231 [.ptr d [0] 0] k [(d, crBox b u e)] (.slice none ((b.drop u).map byteAV)) [] := by
 have hd1 : (b.map byteAV).drop u = (b.drop u).map byteAV := by rw [List.map_drop]
 generalize b.drop u = t at *
 simp only [crBox]
 refine Bd Tryz.func231 Tryz.ntmps231 fun σ N hp hpn hk hkn hfree => ?_
 obtain ⟨hd, hdn⟩ := HD0 hp hpn; clear hp hpn
 exact WM
theorem cnum_spec (b : List UInt8) (u : Nat) (hu : u ≤ b.length) (hb : b.length ≤ 1000000) (d k : Nat) :
  ACall Tryz.prog 218 [.ptr d [] 0] k [(d, crBox b u 0)] (.lit (.int .i64 (numR b u).1)) [(d, crBox b (numR b u).2.1 (numR b u).2.2)] := by
 have c0 := left_spec b u 0 hu hb d
 have c1 := Read_spec (b.drop u) (by rw [List.length_drop]; omega)
 have hl := rdS_le (b.drop u)
 rw [List.length_drop] at hl
 unfold numR
 generalize rdS (b.drop u) = R at *
 obtain ⟨n, q, e⟩ := R
 simp only [rdAV] at *
 generalize b.drop u = t at *
 simp only [crBox] at *
 refine Bd Tryz.func218 Tryz.ntmps218 fun σ N hp hpn hk hkn hfree => ?_
 obtain ⟨hd, hdn⟩ := HD0 hp hpn; clear hp hpn
 have hcs := And.intro c0 (And.intro c1 True.intro)
 clear c0 c1
 refine Wk ?_
 exact RW (d) ((.box 270 (.agg [.agg [.slice none (b.map byteAV), .lit (.int .i64 ((u : Int) + (q : Int)))], .lit (.int .i64 (e : Int))])))
theorem cfld_spec (b : List UInt8) (u : Nat) (hu : u ≤ b.length) (hb : b.length ≤ 1000000) (d k : Nat) :
  ACall Tryz.prog 220 [.ptr d [] 0] k [(d, crBox b u 0)] (.slice none ((fldR b u).1.map byteAV)) [(d, crBox b (fldR b u).2.1 (fldR b u).2.2)] := by
 have c0 := left_spec b u 0 hu hb d
 have c1 := fieldRead_spec (b.drop u) (by rw [List.length_drop]; omega)
 have hl := rdF_le (b.drop u)
 rw [List.length_drop] at hl
 unfold fldR
 generalize rdF (b.drop u) = R at *
 obtain ⟨n, q, e⟩ := R
 simp only [rdFAV] at *
 generalize b.drop u = t at *
 simp only [crBox] at *
 refine Bd Tryz.func220 Tryz.ntmps220 fun σ N hp hpn hk hkn hfree => ?_
 obtain ⟨hd, hdn⟩ := HD0 hp hpn; clear hp hpn
 have hcs := And.intro c0 (And.intro c1 True.intro)
 clear c0 c1
 refine Wk ?_
 exact RV (d) ((.box 270 (.agg [.agg [.slice none (b.map byteAV), .lit (.int .i64 ((u : Int) + (q : Int)))], .lit (.int .i64 (e : Int))])))
theorem cnum_off (b : List UInt8) (u e : Nat) (he : e ≠ 0) (d k : Nat) :
  ACall Tryz.prog 218 [.ptr d [] 0] k [(d, crBox b u e)] (.lit (.int .i64 0)) [(d, crBox b u e)] := by
 have he' : ((e : Int) == 0) = false := by rw [beq_eq_false_iff_ne]; omega
 simp only [crBox]
 refine Bd Tryz.func218 Tryz.ntmps218 fun σ N hp hpn hk hkn hfree => ?_
 obtain ⟨hd, hdn⟩ := HD0 hp hpn; clear hp hpn
 refine Wk ?_
 exact RW (d) ((.box 270 (.agg [.agg [.slice none (b.map byteAV), .lit (.int .i64 (u : Int))], .lit (.int .i64 (e : Int))])))
theorem cfld_off (b : List UInt8) (u e : Nat) (he : e ≠ 0) (d k : Nat) :
  ACall Tryz.prog 220 [.ptr d [] 0] k [(d, crBox b u e)] (.slice none []) [(d, crBox b u e)] := by
 have he' : ((e : Int) == 0) = false := by rw [beq_eq_false_iff_ne]; omega
 simp only [crBox]
 refine Bd Tryz.func220 Tryz.ntmps220 fun σ N hp hpn hk hkn hfree => ?_
 obtain ⟨hd, hdn⟩ := HD0 hp hpn; clear hp hpn
 refine Wk ?_
 exact RV (d) ((.box 270 (.agg [.agg [.slice none (b.map byteAV), .lit (.int .i64 (u : Int))], .lit (.int .i64 (e : Int))])))
theorem cpred_spec (b : List UInt8) (u : Nat) (hu : u ≤ b.length) (hb : b.length ≤ 1000000) (d g k : Nat) (_hdg : d ≠ g) :
  ACall Tryz.prog 219 [.ptr d [] 0] k [(d, crBox b u 0), (g, bitsG)] (prAV (predR b u).1) [(d, crBox b (predR b u).2.1 (predR b u).2.2)] := by
 have c0 := left_spec b u 0 hu hb d
 have c1 := pDec_spec (b.drop u) (by rw [List.length_drop]; omega) g
 have hl := (decP_ok (b.drop u)).2
 rw [List.length_drop] at hl
 unfold predR
 generalize decP (b.drop u) = R at *
 obtain ⟨n, q, e⟩ := R
 simp only [decPAV] at *
 generalize b.drop u = t at *
 simp only [crBox] at *
 refine Bd Tryz.func219 Tryz.ntmps219 fun σ N hp hpn hk hkn hfree => ?_
 simp only [List.mem_cons, List.not_mem_nil, or_false, forall_eq_or_imp, forall_eq] at hp hpn; obtain ⟨hd1, hd2⟩ := hp; obtain ⟨hdn1, hdn2⟩ := hpn
 have hcs := And.intro c0 (And.intro c1 True.intro)
 clear c0 c1
 refine Wk ?_
 exact RW (d) ((.box 270 (.agg [.agg [.slice none (b.map byteAV), .lit (.int .i64 ((u : Int) + (q : Int)))], .lit (.int .i64 (e : Int))])))
theorem RPred_spec (b : List UInt8) (u : Nat) (hu : u ≤ b.length) (hb : b.length ≤ 1000000) (d k : Nat) :
  ACall Tryz.prog 100 [.ptr d [] 0] k [(d, RdBox b u 0)] (prAV (predR b u).1) [(d, RdBox b (predR b u).2.1 (predR b u).2.2)] := by
 have c1 := rDec_spec (b.drop u) (by rw [List.length_drop]; omega)
 have hl := (decP_ok (b.drop u)).2
 rw [List.length_drop] at hl
 have hd1 : (b.map byteAV).drop u = (b.drop u).map byteAV := by rw [List.map_drop]
 unfold predR
 generalize decP (b.drop u) = R at *
 obtain ⟨n, q, e⟩ := R
 simp only [decPAV] at *
 generalize b.drop u = t at *
 have c2 := RFail0 b u e d
 simp only [RdBox] at *
 refine Bd Tryz.func100 Tryz.ntmps100 fun σ N hp hpn hk hkn hfree => ?_
 obtain ⟨hd, hdn⟩ := HD0 hp hpn; clear hp hpn
 have hcs := And.intro c1 (And.intro c2 True.intro)
 clear c1 c2
 refine Wk ?_
 exact RW (d) (.box 169 (.agg [.slice none (b.map byteAV), .lit (.int .i64 ((u : Int) + (q : Int))), .lit (.int .i64 (e : Int))]))
def zeroCa : Ca := ⟨false, zeroPr, 0, [], []⟩
def finC (c : Ca) (u : Nat) : Ca × Nat × Nat := if cavB c = true then (c, u, 0) else (zeroCa, 0, 5)
def fldO (b : List UInt8) (u e : Nat) : List UInt8 × Nat × Nat := if e ≠ 0 then ([], u, e) else fldR b u
def decC (b : List UInt8) : Ca × Nat × Nat :=
 if (numR b 0).2.2 ≠ 0 then (zeroCa, 0, (numR b 0).2.2)
 else if (numR b 0).1 = 1 then
  if (predR b (numR b 0).2.1).2.2 ≠ 0 then (zeroCa, 0, (predR b (numR b 0).2.1).2.2) else finC ⟨false, (predR b (numR b 0).2.1).1, 0, [], []⟩ (predR b (numR b 0).2.1).2.1
 else if (numR b 0).1 = 2 then
  let n := numR b (numR b 0).2.1
  let t := fldO b n.2.1 n.2.2
  let x := fldO b t.2.1 t.2.2
  if x.2.2 ≠ 0 then (zeroCa, 0, x.2.2) else finC ⟨true, zeroPr, n.1, t.1, x.1⟩ x.2.1
 else (zeroCa, 0, 6)
def decCAV (r : Ca × Nat × Nat) : AV := .tup [caAV r.1, .lit (.int .i64 r.2.1), .lit (.int .i64 r.2.2)]
theorem fldO_le {b : List UInt8} {u e : Nat} (h : u ≤ b.length) : (fldO b u e).2.1 ≤ b.length := by
 unfold fldO
 split
 ·exact h
 ·exact fldR_le h
theorem fldO_len (b : List UInt8) (u e : Nat) : (fldO b u e).1.length ≤ 1024 := by
 unfold fldO
 split
 ·simp
 ·exact fldR_len b u
theorem fldO_e {b : List UInt8} {u e : Nat} (h : (fldO b u e).2.2 = 0) : e = 0 := by
 unfold fldO at h
 split at h
 ·simp at h; omega
 ·rename_i h1; omega
theorem cfldO_spec (b : List UInt8) (u e : Nat) (hu : u ≤ b.length) (hb : b.length ≤ 1000000) (d k : Nat) :
  ACall Tryz.prog 220 [.ptr d [] 0] k [(d, crBox b u e)] (.slice none ((fldO b u e).1.map byteAV)) [(d, crBox b (fldO b u e).2.1 (fldO b u e).2.2)] := by
 unfold fldO
 by_cases he : e ≠ 0
 ·rw [if_pos he]; exact cfld_off b u e he d k
 ·obtain rfl : e = 0 := by omega
  rw [if_neg he]; exact cfld_spec b u hu hb d k
theorem RFieldO_spec (b : List UInt8) (u e : Nat) (hu : u ≤ b.length) (hb : b.length ≤ 1000000) (d k : Nat) :
  ACall Tryz.prog 99 [.ptr d [] 0] k [(d, RdBox b u e)] (.slice none ((fldO b u e).1.map byteAV)) [(d, RdBox b (fldO b u e).2.1 (fldO b u e).2.2)] := by
 unfold fldO
 by_cases he : e ≠ 0
 ·rw [if_pos he]; exact RField_off b u e he d k
 ·obtain rfl : e = 0 := by omega
  rw [if_neg he]; exact RField_spec b u hu hb d k
theorem RFailO (b : List UInt8) (u e : Nat) (x : Nat) (d k : Nat) :
  ACall Tryz.prog 95 [.ptr d [] 0, .lit (.int .i64 x)] k [(d, RdBox b u e)] (.tup []) [(d, RdBox b u (if e = 0 then x else e))] := by
 by_cases he : e = 0
 ·subst he
  rw [if_pos rfl]
  exact RFail0 b u x d k
 ·rw [if_neg he]
  exact RFail1 b u e he x d k
set_option maxHeartbeats 8000000 in
theorem cDec_spec (b : List UInt8) (hb : b.length ≤ 1000000) (d k : Nat) : ACall Tryz.prog 207 [.slice none (b.map byteAV)] k [(d, bitsG)] (decCAV (decC b)) [] := by
 have c1 := cnum_spec b 0 (Nat.zero_le _) hb
 have hu1 := numR_le (b := b) (u := 0) (Nat.zero_le _)
 unfold decC
 generalize numR b 0 = R at *
 obtain ⟨kn, u, e⟩ := R
 simp only at c1 hu1 ⊢
 by_cases he : e ≠ 0
 ·rw [if_pos he]
  have he' : ((e : Int) == 0) = false := by rw [beq_eq_false_iff_ne]; omega
  have he'' : ((e : Int) != 0) = true := by rw [bne, he']; rfl
  simp only [decCAV, caAV, prAV, zeroPr, zeroCa]
  clear he
  refine Bd Tryz.func207 Tryz.ntmps207 fun σ N hp hpn hk hkn hfree => ?_
  obtain ⟨hd, hdn⟩ := HD0 hp hpn; clear hp hpn
  have hcs := And.intro (c1 (N + 6)) True.intro
  clear c1
  exact WD
 have he0 : e = 0 := by omega
 subst he0
 rw [if_neg (by omega)]
 clear he
 by_cases hk : kn = 1
 ·subst hk
  rw [if_pos rfl]
  have c2 := fun g k hg => cpred_spec b u hu1 hb g d k hg
  have hp := predR_ok hu1
  generalize predR b u = R at *
  obtain ⟨p, u2, e2⟩ := R
  simp only at c2 hp ⊢
  by_cases he2 : e2 ≠ 0
  ·rw [if_pos he2]
   have he' : ((e2 : Int) == 0) = false := by rw [beq_eq_false_iff_ne]; omega
   have he'' : ((e2 : Int) != 0) = true := by rw [bne, he']; rfl
   simp only [decCAV, caAV, prAV, zeroPr, zeroCa]
   clear he2
   obtain ⟨p1, p2, p3, p4, p5, p6⟩ := p
   simp only [prAV] at c2
   refine Bd Tryz.func207 Tryz.ntmps207 fun σ N hp hpn hk hkn hfree => ?_
   obtain ⟨hd, hdn⟩ := HD0 hp hpn; clear hp hpn
   have hcs := And.intro (c1 (N + 6)) (And.intro (fun k => c2 (N + 6) k (by omega)) True.intro)
   clear c1 c2
   exact WD
  have he0 : e2 = 0 := by omega
  subst he0
  rw [if_neg (by omega)]
  clear he2
  have c4 := cavValid_spec ⟨false, p, 0, [], []⟩ hp.1 d
  unfold finC
  cases hv : cavB ⟨false, p, 0, [], []⟩ with
  | false =>
   rw [hv] at c4
   simp only [decCAV, caAV, zeroPr, zeroCa, Bool.false_eq_true, if_false, List.map_nil] at *
   simp only [prAV]
   refine Bd Tryz.func207 Tryz.ntmps207 fun σ N hp hpn hk hkn hfree => ?_
   obtain ⟨hd, hdn⟩ := HD0 hp hpn; clear hp hpn
   have hcs := And.intro (c1 (N + 6)) (And.intro (fun k => c2 (N + 6) k (by omega)) (And.intro c4 True.intro))
   clear c1 c2 c4
   exact WD
  | true =>
   rw [hv] at c4
   simp only [decCAV, caAV, if_true, List.map_nil] at *
   refine Bd Tryz.func207 Tryz.ntmps207 fun σ N hp hpn hk hkn hfree => ?_
   obtain ⟨hd, hdn⟩ := HD0 hp hpn; clear hp hpn
   have hcs := And.intro (c1 (N + 6)) (And.intro (fun k => c2 (N + 6) k (by omega)) (And.intro c4 True.intro))
   clear c1 c2 c4
   exact WD
 rw [if_neg hk]
 have n1 : ((kn : Int) == 1) = false := by rw [beq_eq_false_iff_ne]; omega
 clear hk
 by_cases hk : kn = 2
 ·subst hk
  rw [if_pos rfl]
  have c2 := cnum_spec b u hu1 hb
  have hu2 := numR_le (b := b) (u := u) hu1
  generalize numR b u = R at *
  obtain ⟨n, u2, e2⟩ := R
  simp only at c2 hu2 ⊢
  have c3 := cfldO_spec b u2 e2 hu2 hb
  have hu3 := fldO_le (b := b) (e := e2) hu2
  generalize fldO b u2 e2 = R at *
  obtain ⟨t, u3, e3⟩ := R
  simp only at c3 hu3 ⊢
  have c4 := cfldO_spec b u3 e3 hu3 hb
  generalize fldO b u3 e3 = R at *
  obtain ⟨x, u4, e4⟩ := R
  simp only at c4 ⊢
  by_cases he4 : e4 ≠ 0
  ·rw [if_pos he4]
   have he' : ((e4 : Int) == 0) = false := by rw [beq_eq_false_iff_ne]; omega
   have he'' : ((e4 : Int) != 0) = true := by rw [bne, he']; rfl
   simp only [decCAV, caAV, prAV, zeroPr, zeroCa]
   clear he4
   refine Bd Tryz.func207 Tryz.ntmps207 fun σ N hp hpn hk hkn hfree => ?_
   obtain ⟨hd, hdn⟩ := HD0 hp hpn; clear hp hpn
   have hcs := And.intro (c1 (N + 6)) (And.intro (c2 (N + 6)) (And.intro (c3 (N + 6)) (And.intro (c4 (N + 6)) True.intro)))
   clear c1 c2 c3 c4
   exact WD
  have he0 : e4 = 0 := by omega
  subst he0
  rw [if_neg (by omega)]
  clear he4
  have c5 := cavValid_spec ⟨true, zeroPr, n, t, x⟩ zeroPr_ok d
  unfold finC
  cases hv : cavB ⟨true, zeroPr, n, t, x⟩ with
  | false =>
   rw [hv] at c5
   simp only [decCAV, caAV, prAV, zeroPr, zeroCa, Bool.false_eq_true, if_false, List.map_nil] at *
   refine Bd Tryz.func207 Tryz.ntmps207 fun σ N hp hpn hk hkn hfree => ?_
   obtain ⟨hd, hdn⟩ := HD0 hp hpn; clear hp hpn
   have hcs := And.intro (c1 (N + 6)) (And.intro (c2 (N + 6)) (And.intro (c3 (N + 6)) (And.intro (c4 (N + 6)) (And.intro c5 True.intro))))
   clear c1 c2 c3 c4 c5
   exact WD
  | true =>
   rw [hv] at c5
   simp only [decCAV, caAV, prAV, zeroPr, if_true] at *
   refine Bd Tryz.func207 Tryz.ntmps207 fun σ N hp hpn hk hkn hfree => ?_
   obtain ⟨hd, hdn⟩ := HD0 hp hpn; clear hp hpn
   have hcs := And.intro (c1 (N + 6)) (And.intro (c2 (N + 6)) (And.intro (c3 (N + 6)) (And.intro (c4 (N + 6)) (And.intro c5 True.intro))))
   clear c1 c2 c3 c4 c5
   exact WD
 rw [if_neg hk]
 have n2 : ((kn : Int) == 2) = false := by rw [beq_eq_false_iff_ne]; omega
 clear hk
 simp only [decCAV, caAV, prAV, zeroPr, zeroCa]
 refine Bd Tryz.func207 Tryz.ntmps207 fun σ N hp hpn hk hkn hfree => ?_
 obtain ⟨hd, hdn⟩ := HD0 hp hpn; clear hp hpn
 have hcs := And.intro (c1 (N + 6)) True.intro
 clear c1
 exact WD

theorem zeroCa_bad : cavB zeroCa = false := by decide
set_option maxHeartbeats 8000000 in
theorem rcDec_spec (b : List UInt8) (hb : b.length ≤ 1000000) (k : Nat) : ACall Tryz.prog 164 [.slice none (b.map byteAV)] k [] (decCAV (decC b)) [] := by
 have c1 := RNum_spec b 0 (Nat.zero_le _) hb
 have hu1 := numR_le (b := b) (u := 0) (Nat.zero_le _)
 have hbad := numR_bad (b := b) (u := 0)
 unfold decC
 generalize numR b 0 = R at *
 obtain ⟨kn, u, e⟩ := R
 simp only at c1 hu1 hbad ⊢
 by_cases he : e ≠ 0
 ·rw [if_pos he]
  obtain rfl := hbad he
  have c2 := RFail1 b u e he 6
  have c3 := refCav_spec zeroCa zeroPr_ok
  rw [zeroCa_bad] at c3
  have c4 := RFail1 b u e he 5
  have he' : ((e : Int) == 0) = false := by rw [beq_eq_false_iff_ne]; omega
  have he'' : ((e : Int) != 0) = true := by rw [bne, he']; rfl
  simp only [decCAV, caAV, prAV, zeroPr, zeroCa, List.map_nil] at *
  clear he hbad
  refine Bd Tryz.func164 Tryz.ntmps164 fun σ N hp hpn hk hkn hfree => ?_
  have hcs := And.intro (c1 (N + 5)) (And.intro (c2 (N + 5)) (And.intro c3 (And.intro (c4 (N + 5)) True.intro)))
  clear c1 c2 c3 c4
  exact WD
 have he0 : e = 0 := by omega
 subst he0
 rw [if_neg (by omega)]
 clear he hbad
 by_cases hk : kn = 1
 ·subst hk
  rw [if_pos rfl]
  have c2 := RPred_spec b u hu1 hb
  have hp := predR_ok hu1
  generalize predR b u = R at *
  obtain ⟨p, u2, e2⟩ := R
  simp only at c2 hp ⊢
  by_cases he2 : e2 ≠ 0
  ·rw [if_pos he2]
   have hp1 := hp.1
   have he' : ((e2 : Int) == 0) = false := by rw [beq_eq_false_iff_ne]; omega
   have he'' : ((e2 : Int) != 0) = true := by rw [bne, he']; rfl
   have c8 := refCav_spec ⟨false, p, 0, [], []⟩ hp1
   cases hv : cavB ⟨false, p, 0, [], []⟩ with
   | false =>
    rw [hv] at c8
    have c9 := RFail1 b u2 e2 (by omega) 5
    simp only [decCAV, caAV, zeroCa, zeroPr, List.map_nil] at *
    refine Bd Tryz.func164 Tryz.ntmps164 fun σ N hp hpn hk hkn hfree => ?_
    have hcs := And.intro (c1 (N + 5)) (And.intro (c2 (N + 5)) (And.intro c8 (And.intro (c9 (N + 5)) True.intro)))
    clear c1 c2 c8 c9
    exact WD
   | true =>
    rw [hv] at c8
    simp only [decCAV, caAV, zeroCa, zeroPr, List.map_nil] at *
    refine Bd Tryz.func164 Tryz.ntmps164 fun σ N hp hpn hk hkn hfree => ?_
    have hcs := And.intro (c1 (N + 5)) (And.intro (c2 (N + 5)) (And.intro c8 True.intro))
    clear c1 c2 c8
    exact WD
  have he0 : e2 = 0 := by omega
  subst he0
  rw [if_neg (by omega)]
  clear he2
  have hp1 := hp.1
  have c8 := refCav_spec ⟨false, p, 0, [], []⟩ hp1
  cases hv : cavB ⟨false, p, 0, [], []⟩ with
  | false =>
   unfold finC
   rw [hv]
   rw [hv] at c8
   have c9 := RFail0 b u2 5
   simp only [decCAV, caAV, zeroCa, Bool.false_eq_true, if_false, List.map_nil] at *
   refine Bd Tryz.func164 Tryz.ntmps164 fun σ N hp hpn hk hkn hfree => ?_
   have hcs := And.intro (c1 (N + 5)) (And.intro (c2 (N + 5)) (And.intro c8 (And.intro (c9 (N + 5)) True.intro)))
   clear c1 c2 c8 c9
   exact WD
  | true =>
   unfold finC
   rw [hv]
   rw [hv] at c8
   simp only [decCAV, caAV, zeroCa, if_true, List.map_nil] at *
   refine Bd Tryz.func164 Tryz.ntmps164 fun σ N hp hpn hk hkn hfree => ?_
   have hcs := And.intro (c1 (N + 5)) (And.intro (c2 (N + 5)) (And.intro c8 True.intro))
   clear c1 c2 c8
   exact WD
 rw [if_neg hk]
 have n1 : ((kn : Int) == 1) = false := by rw [beq_eq_false_iff_ne]; omega
 clear hk
 by_cases hk : kn = 2
 ·subst hk
  rw [if_pos rfl]
  have c2 := RNum_spec b u hu1 hb
  have hu2 := numR_le (b := b) (u := u) hu1
  generalize numR b u = R at *
  obtain ⟨n, u2, e2⟩ := R
  simp only at c2 hu2 ⊢
  have c3 := RFieldO_spec b u2 e2 hu2 hb
  have hu3 := fldO_le (b := b) (e := e2) hu2
  generalize fldO b u2 e2 = R at *
  obtain ⟨t, u3, e3⟩ := R
  simp only at c3 hu3 ⊢
  have c4 := RFieldO_spec b u3 e3 hu3 hb
  generalize fldO b u3 e3 = R at *
  obtain ⟨x, u4, e4⟩ := R
  simp only at c4 ⊢
  by_cases he4 : e4 ≠ 0
  ·rw [if_pos he4]
   have he' : ((e4 : Int) == 0) = false := by rw [beq_eq_false_iff_ne]; omega
   have he'' : ((e4 : Int) != 0) = true := by rw [bne, he']; rfl
   have c8 := refCav_spec ⟨true, zeroPr, n, t, x⟩ zeroPr_ok
   cases hv : cavB ⟨true, zeroPr, n, t, x⟩ with
   | false =>
    rw [hv] at c8
    have c9 := RFail1 b u4 e4 (by omega) 5
    simp only [decCAV, caAV, prAV, zeroPr, zeroCa, List.map_nil] at *
    refine Bd Tryz.func164 Tryz.ntmps164 fun σ N hp hpn hk hkn hfree => ?_
    have hcs := And.intro (c1 (N + 5)) (And.intro (c2 (N + 5)) (And.intro (c3 (N + 5)) (And.intro (c4 (N + 5)) (And.intro c8 (And.intro (c9 (N + 5)) True.intro)))))
    clear c1 c2 c3 c4 c8 c9
    exact WD
   | true =>
    rw [hv] at c8
    simp only [decCAV, caAV, prAV, zeroPr, zeroCa, List.map_nil] at *
    refine Bd Tryz.func164 Tryz.ntmps164 fun σ N hp hpn hk hkn hfree => ?_
    have hcs := And.intro (c1 (N + 5)) (And.intro (c2 (N + 5)) (And.intro (c3 (N + 5)) (And.intro (c4 (N + 5)) (And.intro c8 True.intro))))
    clear c1 c2 c3 c4 c8
    exact WD
  have he0 : e4 = 0 := by omega
  subst he0
  rw [if_neg (by omega)]
  clear he4
  have c8 := refCav_spec ⟨true, zeroPr, n, t, x⟩ zeroPr_ok
  cases hv : cavB ⟨true, zeroPr, n, t, x⟩ with
  | false =>
   unfold finC
   rw [hv]
   rw [hv] at c8
   have c9 := RFail0 b u4 5
   simp only [decCAV, caAV, prAV, zeroPr, zeroCa, Bool.false_eq_true, if_false, List.map_nil] at *
   refine Bd Tryz.func164 Tryz.ntmps164 fun σ N hp hpn hk hkn hfree => ?_
   have hcs := And.intro (c1 (N + 5)) (And.intro (c2 (N + 5)) (And.intro (c3 (N + 5)) (And.intro (c4 (N + 5)) (And.intro c8 (And.intro (c9 (N + 5)) True.intro)))))
   clear c1 c2 c3 c4 c8 c9
   exact WD
  | true =>
   unfold finC
   rw [hv]
   rw [hv] at c8
   simp only [decCAV, caAV, prAV, zeroPr, zeroCa, if_true] at *
   refine Bd Tryz.func164 Tryz.ntmps164 fun σ N hp hpn hk hkn hfree => ?_
   have hcs := And.intro (c1 (N + 5)) (And.intro (c2 (N + 5)) (And.intro (c3 (N + 5)) (And.intro (c4 (N + 5)) (And.intro c8 True.intro))))
   clear c1 c2 c3 c4 c8
   exact WD
 rw [if_neg hk]
 have n2 : ((kn : Int) == 2) = false := by rw [beq_eq_false_iff_ne]; omega
 clear hk
 have c2 := RFail0 b u 6
 have c3 := refCav_spec zeroCa zeroPr_ok
 rw [zeroCa_bad] at c3
 have c4 := RFail1 b u 6 (by decide) 5
 have e6 : ((6 : Nat) : Int) = 6 := rfl
 simp only [decCAV, caAV, prAV, zeroPr, zeroCa, RdBox, e6, List.map_nil] at *
 refine Bd Tryz.func164 Tryz.ntmps164 fun σ N hp hpn hk hkn hfree => ?_
 have hcs := And.intro (c1 (N + 5)) (And.intro (c2 (N + 5)) (And.intro c3 (And.intro (c4 (N + 5)) True.intro)))
 clear c1 c2 c3 c4
 exact WD

theorem u64_wrap_range (x : Int) : 0 ≤ IntKind.u64.wrap x ∧ IntKind.u64.wrap x < 18446744073709551616 := by
 have : IntKind.u64.wrap x = x % 18446744073709551616 := by simp [IntKind.wrap, IntKind.bits, IntKind.signed]
 rw [this]; omega
theorem u64_bits_range (op : BinOp) (a b : Int) : 0 ≤ bits op .u64 a b ∧ bits op .u64 a b < 18446744073709551616 := by
 unfold bits
 split <;> exact u64_wrap_range _
theorem u64_and32 (x : Int) (h0 : 0 ≤ x) (h1 : x < 18446744073709551616) : bits .and .u64 x 4294967295 = x % 4294967296 := bits_mask .u64 64 (by decide) (fun n a b => wrap_u64r a (by omega)) 32 (by decide) x h0 h1
theorem u64_and7 (x : Int) (h0 : 0 ≤ x) (h1 : x < 18446744073709551616) : bits .and .u64 x 127 = x % 128 := bits_mask .u64 64 (by decide) (fun n a b => wrap_u64r a (by omega)) 7 (by decide) x h0 h1
theorem Next_at (l : List Int) (i : Nat) (n : Nat) (h : Dk l i) (h0 : 0 < n) (hn : n ≤ 1000000000000000000) :
  ∃ x j : Nat, x < n ∧ Dk l j ∧ ∀ d k, ACall Tryz.prog 29 [.ptr d [] 0, .lit (.int .i64 n)] k [(d, deckBox l i)] (.lit (.int .i64 x)) [(d, deckBox l j)] := Next_ex l i n h h0 hn
theorem pow_lt (y n : Nat) (h : y < n) (_hn : n ≤ 64) : ∃ p : Int, (2 : Int) ^ y = p ∧ 0 < p ∧ p < 2 ^ n := by
 refine ⟨_, rfl, Int.pow_pos (by omega), ?_⟩
 exact_mod_cast Nat.pow_lt_pow_right (by omega) h
set_option maxHeartbeats 4000000 in
theorem mask64_ex (l : List Int) (i : Nat) (h : Dk l i) :
  ∃ (m : Int) (j : Nat), 0 < m ∧ m < 2 ^ 64 ∧ Dk l j ∧ ∀ d k, ACall Tryz.prog 116 [.ptr d [] 0, .lit (.int .i64 64)] k [(d, deckBox l i)] (.lit (.int .u64 m)) [(d, deckBox l j)] := by
 obtain ⟨x, j1, x1, d1, c1⟩ := Next_at l i 3 h (by omega) (by omega)
 have hx : x = 0 ∨ x = 1 ∨ x = 2 := by omega
 rcases hx with rfl | rfl | rfl
 ·obtain ⟨a, j2, a1, d2, c2⟩ := Next_at l j1 16 d1 (by omega) (by omega)
  obtain ⟨v, hv⟩ : ∃ v : Int, (a : Int) = v := ⟨_, rfl⟩
  have v0 : 0 ≤ v := by omega
  have v1 : v < 18446744073709551616 := by omega
  have hvw : IntKind.u64.wrap v = v := wrap_u64r v0 (by omega)
  by_cases hz : v = 0
  ·obtain ⟨y, j9, y1, d9, c9⟩ := Next_at l j2 64 d2 (by omega) (by omega)
   obtain ⟨p, hp1, hp2, hp3⟩ := pow_lt y 64 y1 (by omega)
   have hmn : min y 64 = y := by omega
   refine ⟨p, j9, hp2, hp3, d9, fun d k => ?_⟩
   have hpw : IntKind.u64.wrap p = p := wrap_u64r (by omega) (by simp at hp3; omega)
   have hyw : IntKind.u64.wrap (y : Int) = y := wrap_u64r (by omega) (by omega)
   have hzb : (v == 0) = true := by simp [hz]
   refine Bd Tryz.func116 Tryz.ntmps116 fun σ N hp hpn hk hkn hfree => ?_
   obtain ⟨hd, hdn⟩ := HD0 hp hpn; clear hp hpn
   have hcs := And.intro (c1 d) (And.intro (c2 d) (And.intro (c9 d) True.intro))
   clear c1 c2 c9
   refine Wk ?_
   exact RW (d) (deckBox l j9)
  ·have hzb : (v == 0) = false := by simp [hz]
   refine ⟨v, j2, by omega, by simp; omega, d2, fun d k => ?_⟩
   refine Bd Tryz.func116 Tryz.ntmps116 fun σ N hp hpn hk hkn hfree => ?_
   obtain ⟨hd, hdn⟩ := HD0 hp hpn; clear hp hpn
   have hcs := And.intro (c1 d) (And.intro (c2 d) True.intro)
   clear c1 c2
   refine Wk ?_
   exact RW (d) (deckBox l j2)
 ·obtain ⟨a, j2, a1, d2, c2⟩ := Next_at l j1 65536 d1 (by omega) (by omega)
  obtain ⟨b, j3, b1, d3, c3⟩ := Next_at l j2 65536 d2 (by omega) (by omega)
  obtain ⟨v, hv⟩ : ∃ v : Int, bits .or .u64 (a : Int) ((b : Int) * 281474976710656) = v := ⟨_, rfl⟩
  obtain ⟨v0, v1⟩ := u64_bits_range .or (a : Int) ((b : Int) * 281474976710656)
  rw [hv] at v0 v1
  have haw : IntKind.u64.wrap (a : Int) = a := wrap_u64r (by omega) (by omega)
  have hbw : IntKind.u64.wrap (b : Int) = b := wrap_u64r (by omega) (by omega)
  have hbs : IntKind.u64.wrap ((b : Int) * 281474976710656) = (b : Int) * 281474976710656 := wrap_u64r (by omega) (by omega)
  by_cases hz : v = 0
  ·obtain ⟨y, j9, y1, d9, c9⟩ := Next_at l j3 64 d3 (by omega) (by omega)
   obtain ⟨p, hp1, hp2, hp3⟩ := pow_lt y 64 y1 (by omega)
   have hmn : min y 64 = y := by omega
   refine ⟨p, j9, hp2, hp3, d9, fun d k => ?_⟩
   have hpw : IntKind.u64.wrap p = p := wrap_u64r (by omega) (by simp at hp3; omega)
   have hyw : IntKind.u64.wrap (y : Int) = y := wrap_u64r (by omega) (by omega)
   have hzb : (v == 0) = true := by simp [hz]
   refine Bd Tryz.func116 Tryz.ntmps116 fun σ N hp hpn hk hkn hfree => ?_
   obtain ⟨hd, hdn⟩ := HD0 hp hpn; clear hp hpn
   have hcs := And.intro (c1 d) (And.intro (c2 d) (And.intro (c3 d) (And.intro (c9 d) True.intro)))
   clear c1 c2 c3 c9
   refine Wk ?_
   exact RW (d) (deckBox l j9)
  ·have hzb : (v == 0) = false := by simp [hz]
   refine ⟨v, j3, by omega, by simp; omega, d3, fun d k => ?_⟩
   refine Bd Tryz.func116 Tryz.ntmps116 fun σ N hp hpn hk hkn hfree => ?_
   obtain ⟨hd, hdn⟩ := HD0 hp hpn; clear hp hpn
   have hcs := And.intro (c1 d) (And.intro (c2 d) (And.intro (c3 d) True.intro))
   clear c1 c2 c3
   refine Wk ?_
   exact RW (d) (deckBox l j3)
 ·obtain ⟨a, j2, a1, d2, c2⟩ := Next_at l j1 65536 d1 (by omega) (by omega)
  obtain ⟨v, hv⟩ : ∃ v : Int, bits .xor .u64 18446744073709551615 (a : Int) = v := ⟨_, rfl⟩
  obtain ⟨v0, v1⟩ := u64_bits_range .xor 18446744073709551615 (a : Int)
  rw [hv] at v0 v1
  have haw : IntKind.u64.wrap (a : Int) = a := wrap_u64r (by omega) (by omega)
  have hsx : (if IntKind.u64.signed = true then (-1 : Int) else IntKind.u64.max) = 18446744073709551615 := by decide
  by_cases hz : v = 0
  ·obtain ⟨y, j9, y1, d9, c9⟩ := Next_at l j2 64 d2 (by omega) (by omega)
   obtain ⟨p, hp1, hp2, hp3⟩ := pow_lt y 64 y1 (by omega)
   have hmn : min y 64 = y := by omega
   refine ⟨p, j9, hp2, hp3, d9, fun d k => ?_⟩
   have hpw : IntKind.u64.wrap p = p := wrap_u64r (by omega) (by simp at hp3; omega)
   have hyw : IntKind.u64.wrap (y : Int) = y := wrap_u64r (by omega) (by omega)
   have hzb : (v == 0) = true := by simp [hz]
   refine Bd Tryz.func116 Tryz.ntmps116 fun σ N hp hpn hk hkn hfree => ?_
   obtain ⟨hd, hdn⟩ := HD0 hp hpn; clear hp hpn
   have hcs := And.intro (c1 d) (And.intro (c2 d) (And.intro (c9 d) True.intro))
   clear c1 c2 c9
   refine Wk ?_
   exact RW (d) (deckBox l j9)
  ·have hzb : (v == 0) = false := by simp [hz]
   refine ⟨v, j2, by omega, by simp; omega, d2, fun d k => ?_⟩
   refine Bd Tryz.func116 Tryz.ntmps116 fun σ N hp hpn hk hkn hfree => ?_
   obtain ⟨hd, hdn⟩ := HD0 hp hpn; clear hp hpn
   have hcs := And.intro (c1 d) (And.intro (c2 d) True.intro)
   clear c1 c2
   refine Wk ?_
   exact RW (d) (deckBox l j2)
set_option maxHeartbeats 4000000 in
theorem mask32_ex (l : List Int) (i : Nat) (h : Dk l i) :
  ∃ (m : Int) (j : Nat), 0 < m ∧ m < 2 ^ 32 ∧ Dk l j ∧ ∀ d k, ACall Tryz.prog 116 [.ptr d [] 0, .lit (.int .i64 32)] k [(d, deckBox l i)] (.lit (.int .u64 m)) [(d, deckBox l j)] := by
 obtain ⟨x, j1, x1, d1, c1⟩ := Next_at l i 3 h (by omega) (by omega)
 have hx : x = 0 ∨ x = 1 ∨ x = 2 := by omega
 rcases hx with rfl | rfl | rfl
 ·obtain ⟨a, j2, a1, d2, c2⟩ := Next_at l j1 16 d1 (by omega) (by omega)
  obtain ⟨v, hv⟩ : ∃ v : Int, (a : Int) = v := ⟨_, rfl⟩
  have v0 : 0 ≤ v := by omega
  have v1 : v < 18446744073709551616 := by omega
  have hvw : IntKind.u64.wrap v = v := wrap_u64r v0 (by omega)
  have ha := u64_and32 v v0 v1
  obtain ⟨w, hw⟩ : ∃ w, v % 4294967296 = w := ⟨_, rfl⟩
  have w0 : 0 ≤ w := by omega
  have w1 : w < 4294967296 := by omega
  rw [hw] at ha
  by_cases hz : w = 0
  ·obtain ⟨y, j9, y1, d9, c9⟩ := Next_at l j2 32 d2 (by omega) (by omega)
   obtain ⟨p, hp1, hp2, hp3⟩ := pow_lt y 32 y1 (by omega)
   have hmn : min y 64 = y := by omega
   refine ⟨p, j9, hp2, hp3, d9, fun d k => ?_⟩
   have hpw : IntKind.u64.wrap p = p := wrap_u64r (by omega) (by simp at hp3; omega)
   have hyw : IntKind.u64.wrap (y : Int) = y := wrap_u64r (by omega) (by omega)
   have hzb : (w == 0) = true := by simp [hz]
   refine Bd Tryz.func116 Tryz.ntmps116 fun σ N hp hpn hk hkn hfree => ?_
   obtain ⟨hd, hdn⟩ := HD0 hp hpn; clear hp hpn
   have hcs := And.intro (c1 d) (And.intro (c2 d) (And.intro (c9 d) True.intro))
   clear c1 c2 c9
   refine Wk ?_
   exact RW (d) (deckBox l j9)
  ·have hzb : (w == 0) = false := by simp [hz]
   refine ⟨w, j2, by omega, by simp; omega, d2, fun d k => ?_⟩
   refine Bd Tryz.func116 Tryz.ntmps116 fun σ N hp hpn hk hkn hfree => ?_
   obtain ⟨hd, hdn⟩ := HD0 hp hpn; clear hp hpn
   have hcs := And.intro (c1 d) (And.intro (c2 d) True.intro)
   clear c1 c2
   refine Wk ?_
   exact RW (d) (deckBox l j2)
 ·obtain ⟨a, j2, a1, d2, c2⟩ := Next_at l j1 65536 d1 (by omega) (by omega)
  obtain ⟨b, j3, b1, d3, c3⟩ := Next_at l j2 65536 d2 (by omega) (by omega)
  obtain ⟨v, hv⟩ : ∃ v : Int, bits .or .u64 (a : Int) ((b : Int) * 281474976710656) = v := ⟨_, rfl⟩
  obtain ⟨v0, v1⟩ := u64_bits_range .or (a : Int) ((b : Int) * 281474976710656)
  rw [hv] at v0 v1
  have haw : IntKind.u64.wrap (a : Int) = a := wrap_u64r (by omega) (by omega)
  have hbw : IntKind.u64.wrap (b : Int) = b := wrap_u64r (by omega) (by omega)
  have hbs : IntKind.u64.wrap ((b : Int) * 281474976710656) = (b : Int) * 281474976710656 := wrap_u64r (by omega) (by omega)
  have ha := u64_and32 v v0 v1
  obtain ⟨w, hw⟩ : ∃ w, v % 4294967296 = w := ⟨_, rfl⟩
  have w0 : 0 ≤ w := by omega
  have w1 : w < 4294967296 := by omega
  rw [hw] at ha
  by_cases hz : w = 0
  ·obtain ⟨y, j9, y1, d9, c9⟩ := Next_at l j3 32 d3 (by omega) (by omega)
   obtain ⟨p, hp1, hp2, hp3⟩ := pow_lt y 32 y1 (by omega)
   have hmn : min y 64 = y := by omega
   refine ⟨p, j9, hp2, hp3, d9, fun d k => ?_⟩
   have hpw : IntKind.u64.wrap p = p := wrap_u64r (by omega) (by simp at hp3; omega)
   have hyw : IntKind.u64.wrap (y : Int) = y := wrap_u64r (by omega) (by omega)
   have hzb : (w == 0) = true := by simp [hz]
   refine Bd Tryz.func116 Tryz.ntmps116 fun σ N hp hpn hk hkn hfree => ?_
   obtain ⟨hd, hdn⟩ := HD0 hp hpn; clear hp hpn
   have hcs := And.intro (c1 d) (And.intro (c2 d) (And.intro (c3 d) (And.intro (c9 d) True.intro)))
   clear c1 c2 c3 c9
   refine Wk ?_
   exact RW (d) (deckBox l j9)
  ·have hzb : (w == 0) = false := by simp [hz]
   refine ⟨w, j3, by omega, by simp; omega, d3, fun d k => ?_⟩
   refine Bd Tryz.func116 Tryz.ntmps116 fun σ N hp hpn hk hkn hfree => ?_
   obtain ⟨hd, hdn⟩ := HD0 hp hpn; clear hp hpn
   have hcs := And.intro (c1 d) (And.intro (c2 d) (And.intro (c3 d) True.intro))
   clear c1 c2 c3
   refine Wk ?_
   exact RW (d) (deckBox l j3)
 ·obtain ⟨a, j2, a1, d2, c2⟩ := Next_at l j1 65536 d1 (by omega) (by omega)
  obtain ⟨v, hv⟩ : ∃ v : Int, bits .xor .u64 18446744073709551615 (a : Int) = v := ⟨_, rfl⟩
  obtain ⟨v0, v1⟩ := u64_bits_range .xor 18446744073709551615 (a : Int)
  rw [hv] at v0 v1
  have haw : IntKind.u64.wrap (a : Int) = a := wrap_u64r (by omega) (by omega)
  have hsx : (if IntKind.u64.signed = true then (-1 : Int) else IntKind.u64.max) = 18446744073709551615 := by decide
  have ha := u64_and32 v v0 v1
  obtain ⟨w, hw⟩ : ∃ w, v % 4294967296 = w := ⟨_, rfl⟩
  have w0 : 0 ≤ w := by omega
  have w1 : w < 4294967296 := by omega
  rw [hw] at ha
  by_cases hz : w = 0
  ·obtain ⟨y, j9, y1, d9, c9⟩ := Next_at l j2 32 d2 (by omega) (by omega)
   obtain ⟨p, hp1, hp2, hp3⟩ := pow_lt y 32 y1 (by omega)
   have hmn : min y 64 = y := by omega
   refine ⟨p, j9, hp2, hp3, d9, fun d k => ?_⟩
   have hpw : IntKind.u64.wrap p = p := wrap_u64r (by omega) (by simp at hp3; omega)
   have hyw : IntKind.u64.wrap (y : Int) = y := wrap_u64r (by omega) (by omega)
   have hzb : (w == 0) = true := by simp [hz]
   refine Bd Tryz.func116 Tryz.ntmps116 fun σ N hp hpn hk hkn hfree => ?_
   obtain ⟨hd, hdn⟩ := HD0 hp hpn; clear hp hpn
   have hcs := And.intro (c1 d) (And.intro (c2 d) (And.intro (c9 d) True.intro))
   clear c1 c2 c9
   refine Wk ?_
   exact RW (d) (deckBox l j9)
  ·have hzb : (w == 0) = false := by simp [hz]
   refine ⟨w, j2, by omega, by simp; omega, d2, fun d k => ?_⟩
   refine Bd Tryz.func116 Tryz.ntmps116 fun σ N hp hpn hk hkn hfree => ?_
   obtain ⟨hd, hdn⟩ := HD0 hp hpn; clear hp hpn
   have hcs := And.intro (c1 d) (And.intro (c2 d) True.intro)
   clear c1 c2
   refine Wk ?_
   exact RW (d) (deckBox l j2)
set_option maxHeartbeats 4000000 in
theorem mask7_ex (l : List Int) (i : Nat) (h : Dk l i) :
  ∃ (m : Int) (j : Nat), 0 < m ∧ m < 2 ^ 7 ∧ Dk l j ∧ ∀ d k, ACall Tryz.prog 116 [.ptr d [] 0, .lit (.int .i64 7)] k [(d, deckBox l i)] (.lit (.int .u64 m)) [(d, deckBox l j)] := by
 obtain ⟨x, j1, x1, d1, c1⟩ := Next_at l i 3 h (by omega) (by omega)
 have hx : x = 0 ∨ x = 1 ∨ x = 2 := by omega
 rcases hx with rfl | rfl | rfl
 ·obtain ⟨a, j2, a1, d2, c2⟩ := Next_at l j1 16 d1 (by omega) (by omega)
  obtain ⟨v, hv⟩ : ∃ v : Int, (a : Int) = v := ⟨_, rfl⟩
  have v0 : 0 ≤ v := by omega
  have v1 : v < 18446744073709551616 := by omega
  have hvw : IntKind.u64.wrap v = v := wrap_u64r v0 (by omega)
  have ha := u64_and7 v v0 v1
  obtain ⟨w, hw⟩ : ∃ w, v % 128 = w := ⟨_, rfl⟩
  have w0 : 0 ≤ w := by omega
  have w1 : w < 128 := by omega
  rw [hw] at ha
  by_cases hz : w = 0
  ·obtain ⟨y, j9, y1, d9, c9⟩ := Next_at l j2 7 d2 (by omega) (by omega)
   obtain ⟨p, hp1, hp2, hp3⟩ := pow_lt y 7 y1 (by omega)
   have hmn : min y 64 = y := by omega
   refine ⟨p, j9, hp2, hp3, d9, fun d k => ?_⟩
   have hpw : IntKind.u64.wrap p = p := wrap_u64r (by omega) (by simp at hp3; omega)
   have hyw : IntKind.u64.wrap (y : Int) = y := wrap_u64r (by omega) (by omega)
   have hzb : (w == 0) = true := by simp [hz]
   refine Bd Tryz.func116 Tryz.ntmps116 fun σ N hp hpn hk hkn hfree => ?_
   obtain ⟨hd, hdn⟩ := HD0 hp hpn; clear hp hpn
   have hcs := And.intro (c1 d) (And.intro (c2 d) (And.intro (c9 d) True.intro))
   clear c1 c2 c9
   refine Wk ?_
   exact RW (d) (deckBox l j9)
  ·have hzb : (w == 0) = false := by simp [hz]
   refine ⟨w, j2, by omega, by simp; omega, d2, fun d k => ?_⟩
   refine Bd Tryz.func116 Tryz.ntmps116 fun σ N hp hpn hk hkn hfree => ?_
   obtain ⟨hd, hdn⟩ := HD0 hp hpn; clear hp hpn
   have hcs := And.intro (c1 d) (And.intro (c2 d) True.intro)
   clear c1 c2
   refine Wk ?_
   exact RW (d) (deckBox l j2)
 ·obtain ⟨a, j2, a1, d2, c2⟩ := Next_at l j1 65536 d1 (by omega) (by omega)
  obtain ⟨b, j3, b1, d3, c3⟩ := Next_at l j2 65536 d2 (by omega) (by omega)
  obtain ⟨v, hv⟩ : ∃ v : Int, bits .or .u64 (a : Int) ((b : Int) * 281474976710656) = v := ⟨_, rfl⟩
  obtain ⟨v0, v1⟩ := u64_bits_range .or (a : Int) ((b : Int) * 281474976710656)
  rw [hv] at v0 v1
  have haw : IntKind.u64.wrap (a : Int) = a := wrap_u64r (by omega) (by omega)
  have hbw : IntKind.u64.wrap (b : Int) = b := wrap_u64r (by omega) (by omega)
  have hbs : IntKind.u64.wrap ((b : Int) * 281474976710656) = (b : Int) * 281474976710656 := wrap_u64r (by omega) (by omega)
  have ha := u64_and7 v v0 v1
  obtain ⟨w, hw⟩ : ∃ w, v % 128 = w := ⟨_, rfl⟩
  have w0 : 0 ≤ w := by omega
  have w1 : w < 128 := by omega
  rw [hw] at ha
  by_cases hz : w = 0
  ·obtain ⟨y, j9, y1, d9, c9⟩ := Next_at l j3 7 d3 (by omega) (by omega)
   obtain ⟨p, hp1, hp2, hp3⟩ := pow_lt y 7 y1 (by omega)
   have hmn : min y 64 = y := by omega
   refine ⟨p, j9, hp2, hp3, d9, fun d k => ?_⟩
   have hpw : IntKind.u64.wrap p = p := wrap_u64r (by omega) (by simp at hp3; omega)
   have hyw : IntKind.u64.wrap (y : Int) = y := wrap_u64r (by omega) (by omega)
   have hzb : (w == 0) = true := by simp [hz]
   refine Bd Tryz.func116 Tryz.ntmps116 fun σ N hp hpn hk hkn hfree => ?_
   obtain ⟨hd, hdn⟩ := HD0 hp hpn; clear hp hpn
   have hcs := And.intro (c1 d) (And.intro (c2 d) (And.intro (c3 d) (And.intro (c9 d) True.intro)))
   clear c1 c2 c3 c9
   refine Wk ?_
   exact RW (d) (deckBox l j9)
  ·have hzb : (w == 0) = false := by simp [hz]
   refine ⟨w, j3, by omega, by simp; omega, d3, fun d k => ?_⟩
   refine Bd Tryz.func116 Tryz.ntmps116 fun σ N hp hpn hk hkn hfree => ?_
   obtain ⟨hd, hdn⟩ := HD0 hp hpn; clear hp hpn
   have hcs := And.intro (c1 d) (And.intro (c2 d) (And.intro (c3 d) True.intro))
   clear c1 c2 c3
   refine Wk ?_
   exact RW (d) (deckBox l j3)
 ·obtain ⟨a, j2, a1, d2, c2⟩ := Next_at l j1 65536 d1 (by omega) (by omega)
  obtain ⟨v, hv⟩ : ∃ v : Int, bits .xor .u64 18446744073709551615 (a : Int) = v := ⟨_, rfl⟩
  obtain ⟨v0, v1⟩ := u64_bits_range .xor 18446744073709551615 (a : Int)
  rw [hv] at v0 v1
  have haw : IntKind.u64.wrap (a : Int) = a := wrap_u64r (by omega) (by omega)
  have hsx : (if IntKind.u64.signed = true then (-1 : Int) else IntKind.u64.max) = 18446744073709551615 := by decide
  have ha := u64_and7 v v0 v1
  obtain ⟨w, hw⟩ : ∃ w, v % 128 = w := ⟨_, rfl⟩
  have w0 : 0 ≤ w := by omega
  have w1 : w < 128 := by omega
  rw [hw] at ha
  by_cases hz : w = 0
  ·obtain ⟨y, j9, y1, d9, c9⟩ := Next_at l j2 7 d2 (by omega) (by omega)
   obtain ⟨p, hp1, hp2, hp3⟩ := pow_lt y 7 y1 (by omega)
   have hmn : min y 64 = y := by omega
   refine ⟨p, j9, hp2, hp3, d9, fun d k => ?_⟩
   have hpw : IntKind.u64.wrap p = p := wrap_u64r (by omega) (by simp at hp3; omega)
   have hyw : IntKind.u64.wrap (y : Int) = y := wrap_u64r (by omega) (by omega)
   have hzb : (w == 0) = true := by simp [hz]
   refine Bd Tryz.func116 Tryz.ntmps116 fun σ N hp hpn hk hkn hfree => ?_
   obtain ⟨hd, hdn⟩ := HD0 hp hpn; clear hp hpn
   have hcs := And.intro (c1 d) (And.intro (c2 d) (And.intro (c9 d) True.intro))
   clear c1 c2 c9
   refine Wk ?_
   exact RW (d) (deckBox l j9)
  ·have hzb : (w == 0) = false := by simp [hz]
   refine ⟨w, j2, by omega, by simp; omega, d2, fun d k => ?_⟩
   refine Bd Tryz.func116 Tryz.ntmps116 fun σ N hp hpn hk hkn hfree => ?_
   obtain ⟨hd, hdn⟩ := HD0 hp hpn; clear hp hpn
   have hcs := And.intro (c1 d) (And.intro (c2 d) True.intro)
   clear c1 c2
   refine Wk ?_
   exact RW (d) (deckBox l j2)

@[go_sem] theorem ba_empty_eq : (ByteArray.empty = { data := #[] }) = True := eq_true rfl
theorem Upto_ex (l : List Int) (i : Nat) (h : Dk l i) (most : Nat) (hm : most ≤ 900000000) :
  ∃ v j : Nat, v ≤ most ∧ Dk l j ∧ ∀ d k, ACall Tryz.prog 117 [.ptr d [] 0, .lit (.int .i64 most)] k [(d, deckBox l i)] (.lit (.int .i64 v)) [(d, deckBox l j)] := by
 obtain ⟨x, j1, x1, d1, c1⟩ := Next_at l i 4 h (by omega) (by omega)
 have hx : x = 0 ∨ x = 1 ∨ x = 2 ∨ x = 3 := by omega
 rcases hx with rfl | rfl | rfl | rfl
 ·obtain ⟨a, j2, a1, d2, c2⟩ := Next_at l j1 4 d1 (by omega) (by omega)
  obtain ⟨v, hv, hvm⟩ : ∃ v : Nat, (if most < a then (most : Int) else (a : Int)) = (v : Int) ∧ v ≤ most := ⟨min a most, by split <;> omega, by omega⟩
  refine ⟨v, j2, hvm, d2, fun d k => ?_⟩
  refine Bd Tryz.func117 Tryz.ntmps117 fun σ N hp hpn hk hkn hfree => ?_
  obtain ⟨hd, hdn⟩ := HD0 hp hpn; clear hp hpn
  have hcs := And.intro (c1 d) (And.intro (c2 d) True.intro)
  clear c1 c2
  refine Wk ?_
  exact RW (d) (deckBox l j2)
 ·obtain ⟨a, j2, a1, d2, c2⟩ := Next_at l j1 300 d1 (by omega) (by omega)
  obtain ⟨v, hv, hvm⟩ : ∃ v : Nat, (if most < a then (most : Int) else (a : Int)) = (v : Int) ∧ v ≤ most := ⟨min a most, by split <;> omega, by omega⟩
  refine ⟨v, j2, hvm, d2, fun d k => ?_⟩
  refine Bd Tryz.func117 Tryz.ntmps117 fun σ N hp hpn hk hkn hfree => ?_
  obtain ⟨hd, hdn⟩ := HD0 hp hpn; clear hp hpn
  have hcs := And.intro (c1 d) (And.intro (c2 d) True.intro)
  clear c1 c2
  refine Wk ?_
  exact RW (d) (deckBox l j2)
 ·obtain ⟨q, hq, hq0, hq1⟩ : ∃ q : Nat, (if (most : Int) + 1 < 3 then (most : Int) + 1 else 3) = (q : Int) ∧ 0 < q ∧ q ≤ most + 1 := ⟨min 3 (most + 1), by split <;> omega, by omega, by omega⟩
  obtain ⟨a, j2, a1, d2, c2⟩ := Next_at l j1 q d1 hq0 (by omega)
  refine ⟨most - a, j2, by omega, d2, fun d k => ?_⟩
  have hsub : ((most - a : Nat) : Int) = (most : Int) - (a : Int) := by omega
  rw [hsub]
  refine Bd Tryz.func117 Tryz.ntmps117 fun σ N hp hpn hk hkn hfree => ?_
  obtain ⟨hd, hdn⟩ := HD0 hp hpn; clear hp hpn
  have hcs := And.intro (c1 d) (And.intro (c2 d) True.intro)
  clear c1 c2 hsub
  refine Wk ?_
  exact RW (d) (deckBox l j2)
 ·obtain ⟨a, j2, a1, d2, c2⟩ := Next_at l j1 (most + 1) d1 (by omega) (by omega)
  have hc : ((most + 1 : Nat) : Int) = (most : Int) + 1 := by omega
  rw [hc] at c2
  refine ⟨a, j2, by omega, d2, fun d k => ?_⟩
  refine Bd Tryz.func117 Tryz.ntmps117 fun σ N hp hpn hk hkn hfree => ?_
  obtain ⟨hd, hdn⟩ := HD0 hp hpn; clear hp hpn
  have hcs := And.intro (c1 d) (And.intro (c2 d) True.intro)
  clear c1 c2 hc
  refine Wk ?_
  exact RW (d) (deckBox l j2)
theorem Minute_ex (l : List Int) (i : Nat) (h : Dk l i) : ∃ v j : Nat, v ≤ 67108864 ∧ Dk l j ∧ ∀ d k, ACall Tryz.prog 36 [.ptr d [] 0] k [(d, deckBox l i)] (.lit (.int .i64 v)) [(d, deckBox l j)] :=
 ⟨_, _, minuteD_le l i, minuteD_dk h, Minute_spec l i h⟩
theorem Name_ex (l : List Int) (i : Nat) (h : Dk l i) : ∃ (s : List UInt8) (j : Nat), nameB s = true ∧ s.length ≤ 16 ∧ Dk l j ∧ ∀ d k, ACall Tryz.prog 35 [.ptr d [] 0] k [(d, deckBox l i)] (.lit (.string ⟨s.toArray⟩)) [(d, deckBox l j)] := by
 have b := nextD_lt l i 8 (by omega)
 refine ⟨_, _, ?_, ?_, nameD_dk h, fun d k => Name_spec0 l i h d k⟩
 all_goals
  unfold nameD
  generalize (nextD l i 8).1 = x at b
  have : x = 0 ∨ x = 1 ∨ x = 2 ∨ x = 3 ∨ x = 4 ∨ x = 5 ∨ x = 6 ∨ x = 7 := by omega
  rcases this with rfl | rfl | rfl | rfl | rfl | rfl | rfl | rfl <;> (simp only; decide)
theorem PrOk.mk0 {k m f t x : Int} {n : List UInt8} (h0 : 0 ≤ m) (h1 : m < 18446744073709551616) (h2 : n.length ≤ 100) : PrOk ⟨k, m, f, t, n, x⟩ := ⟨h0, h1, by simp only; omega⟩
set_option maxHeartbeats 4000000 in
theorem Predicate_ex (l : List Int) (i : Nat) (h : Dk l i) (rides : Bool) :
  ∃ (p : Pr) (j : Nat), predB p = true ∧ PrOk p ∧ (rides = false → p.kind ≠ 7) ∧ Dk l j ∧ ∀ d k, ACall Tryz.prog 50 [.ptr d [] 0, .lit (.bool rides)] k [(d, deckBox l i)] (prAV p) [(d, deckBox l j)] := by
 have c1 := Range_spec l i 1 7 7 h (by omega) (by omega) (by omega) (by omega)
 have d1 := rangeD_dk (lo := 1) (n := 7) h
 have b1 := nextD_lt l i 7 (by omega)
 have hk : (rangeD l i 1 7).1 = 1 ∨ (rangeD l i 1 7).1 = 2 ∨ (rangeD l i 1 7).1 = 3 ∨ (rangeD l i 1 7).1 = 4 ∨ (rangeD l i 1 7).1 = 5 ∨ (rangeD l i 1 7).1 = 6 ∨ (rangeD l i 1 7).1 = 7 := by unfold rangeD; simp only; omega
 generalize rangeD l i 1 7 = X at *
 obtain ⟨kd, j1⟩ := X
 simp only at c1 d1 hk
 clear b1 h
 rcases hk with rfl | rfl | rfl | rfl | rfl | rfl | rfl
 ·obtain ⟨m, j2, m0, m1, d2, c2⟩ := mask64_ex l j1 d1
  refine ⟨⟨1, m, 0, 0, [], 0⟩, j2, (by simp [predB, maskB]; simp at m1; omega), .mk0 (by omega) (by simp at m1; omega) (by simp), by simp, d2, fun d k => ?_⟩
  simp only [prAV]
  refine Bd Tryz.func50 Tryz.ntmps50 fun σ N hp hpn hk hkn hfree => ?_
  obtain ⟨hd, hdn⟩ := HD0 hp hpn; clear hp hpn
  have hcs := And.intro (c1 d) (And.intro (c2 d) True.intro)
  clear c1 c2
  refine Wk ?_
  exact RW (d) (deckBox l j2)
 ·obtain ⟨m, j2, m0, m1, d2, c2⟩ := mask32_ex l j1 d1
  refine ⟨⟨2, m, 0, 0, [], 0⟩, j2, (by simp [predB, maskB]; simp at m1; omega), .mk0 (by omega) (by simp at m1; omega) (by simp), by simp, d2, fun d k => ?_⟩
  simp only [prAV]
  refine Bd Tryz.func50 Tryz.ntmps50 fun σ N hp hpn hk hkn hfree => ?_
  obtain ⟨hd, hdn⟩ := HD0 hp hpn; clear hp hpn
  have hcs := And.intro (c1 d) (And.intro (c2 d) True.intro)
  clear c1 c2
  refine Wk ?_
  exact RW (d) (deckBox l j2)
 ·obtain ⟨m, j2, m0, m1, d2, c2⟩ := mask7_ex l j1 d1
  refine ⟨⟨3, m, 0, 0, [], 0⟩, j2, (by simp [predB, maskB]; simp at m1; omega), .mk0 (by omega) (by simp at m1; omega) (by simp), by simp, d2, fun d k => ?_⟩
  simp only [prAV]
  refine Bd Tryz.func50 Tryz.ntmps50 fun σ N hp hpn hk hkn hfree => ?_
  obtain ⟨hd, hdn⟩ := HD0 hp hpn; clear hp hpn
  have hcs := And.intro (c1 d) (And.intro (c2 d) True.intro)
  clear c1 c2
  refine Wk ?_
  exact RW (d) (deckBox l j2)
 ·obtain ⟨a, j2, a1, d2, c2⟩ := Minute_ex l j1 d1
  obtain ⟨b, j3, b1, d3, c3⟩ := Minute_ex l j2 d2
  obtain ⟨lo, hlo, hlo1⟩ : ∃ lo : Nat, (if b < a then (b : Int) else (a : Int)) = (lo : Int) ∧ lo = min a b := ⟨min a b, by split <;> omega, rfl⟩
  obtain ⟨hi, hhi, hhi1⟩ : ∃ hi : Nat, (if a < b then (b : Int) else (a : Int)) = (hi : Int) ∧ hi = max a b := ⟨max a b, by split <;> omega, rfl⟩
  have hlo2 : ((min a b : Nat) : Int) = lo := by omega
  have hhi2 : ((max a b : Nat) : Int) = hi := by omega
  refine ⟨⟨4, 0, lo, hi, [], 0⟩, j3, (by simp [predB]; omega), .mk0 (by omega) (by omega) (by simp), by simp, d3, fun d k => ?_⟩
  simp only [prAV]
  refine Bd Tryz.func50 Tryz.ntmps50 fun σ N hp hpn hk hkn hfree => ?_
  obtain ⟨hd, hdn⟩ := HD0 hp hpn; clear hp hpn
  have hcs := And.intro (c1 d) (And.intro (c2 d) (And.intro (c3 d) True.intro))
  clear c1 c2 c3
  refine Wk ?_
  exact RW (d) (deckBox l j3)
 ·obtain ⟨a, j2, a1, d2, c2⟩ := Next_at l j1 1440 d1 (by omega) (by omega)
  obtain ⟨b, j3, b1, d3, c3⟩ := Next_at l j2 1440 d2 (by omega) (by omega)
  obtain ⟨c, j4, e1, d4, c4⟩ := Next_at l j3 3 d3 (by omega) (by omega)
  by_cases hc : c = 0
  ·subst hc
   obtain ⟨e, j5, f1, d5, c5⟩ := Next_at l j4 3 d4 (by omega) (by omega)
   obtain ⟨g, hg, hg1⟩ : ∃ g : Nat, ((a : Int) + e + 1440 - 1).tmod 1440 = (g : Int) ∧ g < 1440 := ⟨(a + e + 1440 - 1) % 1440, by rw [Int.tmod_eq_emod_of_nonneg (by omega)]; omega, by omega⟩
   refine ⟨⟨5, 0, a, g, [], 0⟩, j5, (by simp [predB]; omega), .mk0 (by omega) (by omega) (by simp), by simp, d5, fun d k => ?_⟩
   simp only [prAV]
   refine Bd Tryz.func50 Tryz.ntmps50 fun σ N hp hpn hk hkn hfree => ?_
   obtain ⟨hd, hdn⟩ := HD0 hp hpn; clear hp hpn
   have hcs := And.intro (c1 d) (And.intro (c2 d) (And.intro (c3 d) (And.intro (c4 d) (And.intro (c5 d) True.intro))))
   clear c1 c2 c3 c4 c5
   refine Wk ?_
   exact RW (d) (deckBox l j5)
  ·have hcb : ((c : Int) == 0) = false := by rw [beq_eq_false_iff_ne]; omega
   refine ⟨⟨5, 0, a, b, [], 0⟩, j4, (by simp [predB]; omega), .mk0 (by omega) (by omega) (by simp), by simp, d4, fun d k => ?_⟩
   simp only [prAV]
   refine Bd Tryz.func50 Tryz.ntmps50 fun σ N hp hpn hk hkn hfree => ?_
   obtain ⟨hd, hdn⟩ := HD0 hp hpn; clear hp hpn
   have hcs := And.intro (c1 d) (And.intro (c2 d) (And.intro (c3 d) (And.intro (c4 d) True.intro)))
   clear c1 c2 c3 c4
   refine Wk ?_
   exact RW (d) (deckBox l j4)
 ·obtain ⟨n, j2, n0, n1, d2, c2⟩ := Name_ex l j1 d1
  refine ⟨⟨6, 0, 0, 0, n, 0⟩, j2, (by simp [predB, n0]), .mk0 (by omega) (by omega) (by omega), by simp, d2, fun d k => ?_⟩
  simp only [prAV]
  refine Bd Tryz.func50 Tryz.ntmps50 fun σ N hp hpn hk hkn hfree => ?_
  obtain ⟨hd, hdn⟩ := HD0 hp hpn; clear hp hpn
  have hcs := And.intro (c1 d) (And.intro (c2 d) True.intro)
  clear c1 c2
  refine Wk ?_
  exact RW (d) (deckBox l j2)
 ·cases rides with
  | true =>
   obtain ⟨v, j2, v1, d2, c2⟩ := Upto_ex l j1 d1 1000000 (by omega)
   refine ⟨⟨7, 0, 0, 0, [], v⟩, j2, (by simp [predB]; omega), .mk0 (by omega) (by omega) (by simp), by simp, d2, fun d k => ?_⟩
   simp only [prAV]
   refine Bd Tryz.func50 Tryz.ntmps50 fun σ N hp hpn hk hkn hfree => ?_
   obtain ⟨hd, hdn⟩ := HD0 hp hpn; clear hp hpn
   have hcs := And.intro (c1 d) (And.intro (c2 d) True.intro)
   clear c1 c2
   refine Wk ?_
   exact RW (d) (deckBox l j2)
  | false =>
   obtain ⟨a, j2, a1, d2, c2⟩ := Minute_ex l j1 d1
   obtain ⟨b, j3, b1, d3, c3⟩ := Minute_ex l j2 d2
   obtain ⟨lo, hlo, hlo1⟩ : ∃ lo : Nat, (if b < a then (b : Int) else (a : Int)) = (lo : Int) ∧ lo = min a b := ⟨min a b, by split <;> omega, rfl⟩
   obtain ⟨hi, hhi, hhi1⟩ : ∃ hi : Nat, (if a < b then (b : Int) else (a : Int)) = (hi : Int) ∧ hi = max a b := ⟨max a b, by split <;> omega, rfl⟩
   have hlo2 : ((min a b : Nat) : Int) = lo := by omega
   have hhi2 : ((max a b : Nat) : Int) = hi := by omega
   refine ⟨⟨4, 0, lo, hi, [], 0⟩, j3, (by simp [predB]; omega), .mk0 (by omega) (by omega) (by simp), by simp, d3, fun d k => ?_⟩
   simp only [prAV]
   refine Bd Tryz.func50 Tryz.ntmps50 fun σ N hp hpn hk hkn hfree => ?_
   obtain ⟨hd, hdn⟩ := HD0 hp hpn; clear hp hpn
   have hcs := And.intro (c1 d) (And.intro (c2 d) (And.intro (c3 d) True.intro))
   clear c1 c2 c3
   refine Wk ?_
   exact RW (d) (deckBox l j3)



structure CaIn (c : Ca) : Prop where
 pr : PrOk c.first
 t0 : c.ticket.length ≤ 9223372036854775807
 b0 : c.box.length ≤ 9223372036854775807
@[go_sem] theorem renl_replicate (f : Nat → Option Nat) (n : Nat) (a : AV) : AV.renl f (List.replicate n a) = List.replicate n (a.ren f) := by rw [AV.renl_map, List.map_replicate]
end Go.Proofs.YtemmlldpmgfblaaGreatDoor
