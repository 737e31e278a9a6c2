/- Texts R5, K10, K11, K18, K19, U1, joined. -/
import Derived.Test.YtdmjpolnbmoehaaDoorM8

namespace Go.Proofs.YtdmjpolnbmoehaaDoor
open Go.Ab
attribute [local irreducible] Go.Ab.tyAV Go.Ab.aw Go.Ab.aops Go.Ab.kReg Go.Ab.aThen Go.Ab.aBlk Go.Ab.acond Go.Ab.aguard Go.Ab.astep Go.Ab.AStepX Go.Ab.aRet
set_option maxHeartbeats 4000000 in
theorem Caveat_ex (l : List Int) (i : Nat) (h : Dk l i) :
  ∃ (c : Ca) (j : Nat), cavB c = true ∧ PrOk c.first ∧ CaSm c ∧ Dk l j ∧ ∀ d k, ACall Tryd.prog 53 [.ptr d [] 0] k [(d, deckBox l i)] (caAV c) [(d, deckBox l j)] := by
 obtain ⟨x, j1, x1, d1, c1⟩ := Next_at l i 4 h (by omega) (by omega)
 by_cases hx : x = 0
 ·subst hx
  obtain ⟨p, j2, p1, d2, c2⟩ := Next_at l j1 8 d1 (by omega) (by omega)
  obtain ⟨t, j3, t1, d3, c3⟩ := Bytes_ex l j2 20 d2 (by omega)
  obtain ⟨b, j4, b1, d4, c4⟩ := Bytes_ex l j3 20 d3 (by omega)
  refine ⟨⟨true, zeroPr, p, t ++ [1], b ++ [2]⟩, j4, (CV.third p (by omega) _ _ (by simp; omega) (by simp; omega)).ok, zeroPr_ok, ⟨by simp; omega, by simp; omega⟩, d4, fun d k => ?_⟩
  have hb1 : byteAV 1 = .lit (.int .u8 1) := rfl
  have hb2 : byteAV 2 = .lit (.int .u8 2) := rfl
  simp only [caAV, prAV, zeroPr]
  refine Bd Tryd.func53 Tryd.ntmps53 fun σ N hp hpn hk hkn hfree => ?_
  obtain ⟨hd, hdn⟩ := HD0 hp hpn; clear hp hpn
  have hcs := And.intro (c1 d) (And.intro (c2 d) (And.intro (c3 d) (And.intro (c4 d) True.intro)))
  clear c1 c2 c3 c4
  refine Wk ?_
  exact RV (d) (deckBox l j4)
 ·obtain ⟨p, j2, p1, p2, _, d2, c2⟩ := Predicate_ex l j1 d1 true
  refine ⟨⟨false, p, 0, [], []⟩, j2, (CV.first p p1).ok, p2, ⟨by simp, by simp⟩, d2, fun d k => ?_⟩
  have hx0 : (0 : Int) < x := by omega
  simp only [caAV]
  refine Bd Tryd.func53 Tryd.ntmps53 fun σ N hp hpn hk hkn hfree => ?_
  obtain ⟨hd, hdn⟩ := HD0 hp hpn; clear hp hpn
  have hcs := And.intro (c1 d) (And.intro (c2 d) True.intro)
  clear c1 c2
  refine Wk ?_
  exact RV (d) (deckBox l j2)

structure CaIn (c : Ca) : Prop where
 pr : PrOk c.first
 t0 : c.ticket.length ≤ 9223372036854775807
 b0 : c.box.length ≤ 9223372036854775807
@[go_sem] theorem renl_replicate (f : Nat → Option Nat) (n : Nat) (a : AV) : AV.renl f (List.replicate n a) = List.replicate n (a.ren f) := by rw [AV.renl_map, List.map_replicate]



end Go.Proofs.YtdmjpolnbmoehaaDoor

namespace Go.Proofs.YtdmjpolnbmoehaaDoor
open Go.Ab
theorem numR_at {b t : List UInt8} {u n : Nat} (h : b.drop u = leb n ++ t) (hn : n ≤ 281474976710656) : numR b u = (n, u + (leb n).length, 0) := by
 unfold numR
 rw [h, rdS_leb n hn t]
theorem rdF_at (x t : List UInt8) (hx : x.length ≤ 1024) : rdF (fieldB x ++ t) = (x, (fieldB x).length, 0) := by
 have h := rdS_leb x.length (by omega) (x ++ t)
 rw [← List.append_assoc] at h
 have hf : leb x.length ++ x ++ t = fieldB x ++ t := rfl
 rw [hf] at h
 unfold rdF
 rw [h]
 simp only
 have hl : (fieldB x).length = (leb x.length).length + x.length := by simp [fieldB]
 rw [if_neg (by simp), if_neg (by omega), if_neg (by rw [List.length_append]; omega), hl]
 congr 1
 rw [fieldB, List.append_assoc, List.drop_left, List.take_left]
theorem fldR_at {b x t : List UInt8} {u : Nat} (h : b.drop u = fieldB x ++ t) (hx : x.length ≤ 1024) : fldR b u = (x, u + (fieldB x).length, 0) := by
 unfold fldR
 rw [h, rdF_at x t hx]
theorem drop_app {b p q : List UInt8} {u : Nat} (h : b.drop u = p ++ q) : b.drop (u + p.length) = q := by
 rw [← List.drop_drop, h, List.drop_left]
theorem be8_eight (m : Int) (h0 : 0 ≤ m) (h1 : m < 18446744073709551616) : (be8 (eightB m) : Int) = m := by
 have e7 := sh8_toNat m 56
 have e6 := sh8_toNat m 48
 have e5 := sh8_toNat m 40
 have e4 := sh8_toNat m 32
 have e3 := sh8_toNat m 24
 have e2 := sh8_toNat m 16
 have e1 := sh8_toNat m 8
 have e0 := sh8_toNat m 0
 simp only [Int.reducePow, Int.pow_zero, Int.ediv_one] at e7 e6 e5 e4 e3 e2 e1 e0
 simp only [eightB, be8, List.foldl_cons, List.foldl_nil]
 omega
theorem decP_enc (p : Pr) (hp : PrOk p) (h : predB p = true) (t : List UInt8) : decP (encP p ++ t) = (p, (encP p).length, 0) := by
 have hh := h
 cases PV.of h with
 | mask kn m hk hm =>
  have m0 := hp.m0
  have m1 := hp.m1
  simp only at m0 m1
  rw [encP_mask (by omega)]
  have h1 := numR_at (n := kn) (b := leb kn ++ eightB m ++ t) (u := 0) (t := eightB m ++ t) (by simp) (by omega)
  have h8 := eightB_len m
  have h2 : ((leb kn ++ eightB m ++ t).drop (0 + (leb kn).length)).take 8 = eightB m := by
   rw [Nat.zero_add, List.append_assoc, List.drop_left]
   exact List.take_left' h8
  unfold decP
  rw [h1]
  simp only
  rw [if_neg (by simp), if_pos (by omega), if_neg (by simp only [List.length_append]; omega), h2, be8_eight m m0 m1]
  unfold finP
  rw [if_pos hh]
  simp only [List.length_append]
  congr 2
  omega
 | span kn f g hk =>
  rw [encP_span (by omega)]
  have b1 : ((leb kn ++ (leb f ++ leb g) ++ t).drop 0) = leb kn ++ (leb f ++ (leb g ++ t)) := by simp
  have h1 := numR_at b1 (by omega)
  have b2 := drop_app b1
  have h2 := numR_at b2 (by omega)
  have b3 := drop_app b2
  have h3 := numR_at b3 (by omega)
  unfold decP
  rw [h1]
  simp only
  rw [if_neg (by simp), if_neg (by omega), if_pos (by omega), h2]
  simp only
  rw [if_neg (by simp), h3]
  simp only
  rw [if_neg (by simp)]
  unfold finP
  rw [if_pos hh]
  simp only [List.length_append]
  congr 2
  omega
 | holder n hn =>
  have hnl := nameB_len hn
  rw [encP_holder]
  have b1 : ((leb 6 ++ fieldB n ++ t).drop 0) = leb 6 ++ (fieldB n ++ t) := by simp
  have h1 := numR_at b1 (by omega)
  have b2 := drop_app b1
  have h2 := fldR_at b2 (by omega)
  unfold decP
  rw [h1]
  simp only
  rw [if_neg (by simp), if_neg (by decide), if_neg (by decide), if_pos trivial, h2]
  simp only
  rw [if_neg (by simp)]
  unfold finP
  rw [if_pos hh]
  simp only [List.length_append]
  congr 2
  omega
 | rides x hx =>
  rw [encP_rides]
  have b1 : ((leb 7 ++ leb x ++ t).drop 0) = leb 7 ++ (leb x ++ t) := by simp
  have h1 := numR_at b1 (by omega)
  have b2 := drop_app b1
  have h2 := numR_at b2 (by omega)
  unfold decP
  rw [h1]
  simp only
  rw [if_neg (by simp), if_neg (by decide), if_neg (by decide), if_neg (by decide), if_pos trivial, h2]
  simp only
  rw [if_neg (by simp)]
  unfold finP
  rw [if_pos hh]
  simp only [List.length_append]
  congr 2
  omega
theorem predR_at {b t : List UInt8} {u : Nat} {p : Pr} (h : b.drop u = encP p ++ t) (hp : PrOk p) (hb : predB p = true) : predR b u = (p, u + (encP p).length, 0) := by
 unfold predR
 rw [h, decP_enc p hp hb t]
theorem leb1 : leb 1 = [1] := leb_small (by decide)
theorem leb2 : leb 2 = [2] := leb_small (by decide)
theorem fldO_0 (b : List UInt8) (u : Nat) : fldO b u 0 = fldR b u := by unfold fldO; rw [if_neg (by simp)]
theorem decC_enc (c : Ca) (hp : PrOk c.first) (h : cavB c = true) (t : List UInt8) : decC (encC c ++ t) = (c, (encC c).length, 0) := by
 have hh := h
 cases CV.of h with
 | first p hpb =>
  have he : encC ⟨false, p, 0, [], []⟩ = leb 1 ++ encP p := by rw [leb1]; rfl
  rw [he]
  have b1 : ((leb 1 ++ encP p ++ t).drop 0) = leb 1 ++ (encP p ++ t) := by simp
  have h1 := numR_at b1 (by omega)
  have b2 := drop_app b1
  have h2 := predR_at b2 hp hpb
  unfold decC
  rw [h1]
  simp only
  rw [if_neg (by simp), if_pos trivial, h2]
  simp only
  rw [if_neg (by simp)]
  unfold finC
  rw [if_pos hh]
  simp only [List.length_append]
  congr 2
  omega
 | third n hn tk bx ht hb =>
  have he : encC ⟨true, zeroPr, n, tk, bx⟩ = leb 2 ++ (leb n ++ (fieldB tk ++ fieldB bx)) := by rw [leb2]; rfl
  rw [he]
  have b1 : ((leb 2 ++ (leb n ++ (fieldB tk ++ fieldB bx)) ++ t).drop 0) = leb 2 ++ (leb n ++ (fieldB tk ++ (fieldB bx ++ t))) := by simp
  have h1 := numR_at b1 (by omega)
  have b2 := drop_app b1
  have h2 := numR_at b2 (by omega)
  have b3 := drop_app b2
  have h3 := fldR_at b3 ht.2
  have b4 := drop_app b3
  have h4 := fldR_at b4 hb.2
  unfold decC
  rw [h1]
  simp only
  rw [if_neg (by simp), if_neg (by decide), if_pos trivial, h2]
  simp only
  rw [fldO_0, h3]
  simp only
  rw [fldO_0, h4]
  simp only
  rw [if_neg (by simp)]
  unfold finC
  rw [if_pos hh]
  simp only [List.length_append]
  congr 2
  omega
set_option maxHeartbeats 2000000 in
theorem eight_be8 (L : List UInt8) (h : L.length = 8) : eightB (be8 L : Int) = L := by
 obtain ⟨a, b, c, d, e, f, g, i, rfl⟩ : ∃ a b c d e f g i, L = [a, b, c, d, e, f, g, i] := by
  match L, h with
  | [a, b, c, d, e, f, g, i], _ => exact ⟨a, b, c, d, e, f, g, i, rfl⟩
 have ha := a.toNat_lt
 have hb := b.toNat_lt
 have hc := c.toNat_lt
 have hd := d.toNat_lt
 have he := e.toNat_lt
 have hf := f.toNat_lt
 have hg := g.toNat_lt
 have hi := i.toNat_lt
 obtain ⟨m, hm⟩ : ∃ m : Int, ((be8 [a, b, c, d, e, f, g, i] : Nat) : Int) = m := ⟨_, rfl⟩
 rw [hm]
 simp only [be8, List.foldl_cons, List.foldl_nil] at hm
 have d7 : m / 72057594037927936 % 256 = a.toNat := by omega
 have d6 : m / 281474976710656 % 256 = b.toNat := by omega
 have d5 : m / 1099511627776 % 256 = c.toNat := by omega
 have d4 : m / 4294967296 % 256 = d.toNat := by omega
 have d3 : m / 16777216 % 256 = e.toNat := by omega
 have d2 : m / 65536 % 256 = f.toNat := by omega
 have d1 : m / 256 % 256 = g.toNat := by omega
 have d0 : m % 256 = i.toNat := by omega
 have e7 := sh8_toNat m 56
 have e6 := sh8_toNat m 48
 have e5 := sh8_toNat m 40
 have e4 := sh8_toNat m 32
 have e3 := sh8_toNat m 24
 have e2 := sh8_toNat m 16
 have e1 := sh8_toNat m 8
 have e0 := sh8_toNat m 0
 simp only [Int.reducePow, Int.pow_zero, Int.ediv_one] at e7 e6 e5 e4 e3 e2 e1 e0
 rw [d7] at e7
 rw [d6] at e6
 rw [d5] at e5
 rw [d4] at e4
 rw [d3] at e3
 rw [d2] at e2
 rw [d1] at e1
 rw [d0] at e0
 have key : ∀ x y : UInt8, (x.toNat : Int) = (y.toNat : Int) → x = y := fun x y h => UInt8.toNat_inj.1 (by exact_mod_cast h)
 unfold eightB
 rw [key (sh8 m 56) a e7, key (sh8 m 48) b e6, key (sh8 m 40) c e5, key (sh8 m 32) d e4, key (sh8 m 24) e e3, key (sh8 m 16) f e2, key (sh8 m 8) g e1, key (sh8 m 0) i e0]
theorem encC_inj {c d : Ca} (hc : cavB c = true) (hd : cavB d = true) (pc : PrOk c.first) (pd : PrOk d.first) (h : encC c = encC d) : c = d := by
 have h1 := decC_enc c pc hc []
 have h2 := decC_enc d pd hd []
 rw [h, h2] at h1
 exact ((Prod.mk.injEq _ _ _ _).mp h1).1.symm
end Go.Proofs.YtdmjpolnbmoehaaDoor

namespace Go.Proofs.YtdmjpolnbmoehaaDoor
open Go.Ab
attribute [local irreducible] Go.Ab.tyAV Go.Ab.aw Go.Ab.aops Go.Ab.kReg Go.Ab.aThen Go.Ab.aBlk Go.Ab.acond Go.Ab.aguard Go.Ab.astep Go.Ab.AStepX Go.Ab.aRet
attribute [local irreducible] shaG
theorem x8_xor (a b : UInt8) : x8 a b = a ^^^ b := by
 unfold x8
 have ha := a.toNat_lt
 have hb := b.toNat_lt
 have h : bits .xor .u8 (a.toNat : Int) (b.toNat : Int) = ((a ^^^ b).toNat : Int) := by
  have h2 := (a ^^^ b).toNat_lt
  have h3 : (BitVec.ofInt 8 (a.toNat : Int) ^^^ BitVec.ofInt 8 (b.toNat : Int)).toNat = (a ^^^ b).toNat := by
   rw [UInt8.toNat_xor, BitVec.toNat_xor]
   congr 1
   ·rw [BitVec.ofInt_natCast, BitVec.toNat_ofNat]; exact Nat.mod_eq_of_lt ha
   ·rw [BitVec.ofInt_natCast, BitVec.toNat_ofNat]; exact Nat.mod_eq_of_lt hb
  show IntKind.u8.wrap (((BitVec.ofInt 8 (a.toNat : Int) ^^^ BitVec.ofInt 8 (b.toNat : Int)).toNat : Nat) : Int) = _
  rw [h3, IntKind.wrap_u8]
  omega
 rw [h, Int.toNat_natCast, UInt8.ofNat_toNat]
theorem x8_x8 (a b : UInt8) : x8 (x8 a b) b = a := by
 rw [x8_xor, x8_xor, UInt8.xor_assoc, UInt8.xor_self, UInt8.xor_zero]
theorem eightB_inj {m n : Int} (h0 : 0 ≤ m) (h1 : m < 18446744073709551616) (h2 : 0 ≤ n) (h3 : n < 18446744073709551616) (h : eightB m = eightB n) : m = n := by
 have a := be8_eight m h0 h1
 have b := be8_eight n h2 h3
 rw [h] at a
 omega
theorem symT_inj {k : UInt8} {m n : Int} (h0 : 0 ≤ m) (h1 : m < 18446744073709551616) (h2 : 0 ≤ n) (h3 : n < 18446744073709551616) (h : symT k m = symT k n) : m = n := by
 have h := congrArg Subtype.val h
 simp only [symT, List.append_assoc, List.append_cancel_left_eq] at h
 exact eightB_inj h0 h1 h2 h3 (List.append_inj_left h (by rw [eightB_len, eightB_len]))
theorem symApp_inj {k : UInt8} {m n : Int} {x y : List UInt8} (h0 : 0 ≤ m) (h1 : m < 18446744073709551616) (h2 : 0 ≤ n) (h3 : n < 18446744073709551616) (h : (symT k m).1 ++ x = (symT k n).1 ++ y) : m = n :=
 symT_inj h0 h1 h2 h3 (Subtype.ext (List.append_inj_left h (by rw [(symT k m).2, (symT k n).2])))
theorem entL_app (k : Tg) (m : List UInt8) (L : List MacE) (e : MacE) : entL k m (L ++ [e]) = match entL k m L with
  | some t => some t
  | none => if e.key = k ∧ e.msg = m then some e.tag else none := by
 induction L with
 | nil => rfl
 | cons x r ih =>
  simp only [List.cons_append, entL]
  split
  ·rfl
  ·exact ih
theorem entL_mem {k : Tg} {m : List UInt8} {t : Tg} : ∀ {L : List MacE}, entL k m L = some t → ∃ e ∈ L, e.key = k ∧ e.msg = m ∧ e.tag = t
 | [], h => by cases h
 | x :: r, h => by
  simp only [entL] at h
  split at h
  ·rename_i hc
   injection h with h
   exact ⟨x, List.mem_cons_self .., hc.1, hc.2, h⟩
  ·obtain ⟨e, he, h1⟩ := entL_mem h
   exact ⟨e, List.mem_cons_of_mem _ he, h1⟩
theorem boxL_mem {k : Tg} {n : Int} {p : List UInt8} {b : List UInt8} : ∀ {L : List BoxE}, boxL k n p L = some b → ∃ e ∈ L, e.key = k ∧ e.nonce = n ∧ e.plain = p ∧ e.box = b
 | [], h => by cases h
 | x :: r, h => by
  simp only [boxL] at h
  split at h
  ·rename_i hc
   injection h with h
   exact ⟨x, List.mem_cons_self .., hc.1, hc.2.1, hc.2.2, h⟩
  ·obtain ⟨e, he, h1⟩ := boxL_mem h
   exact ⟨e, List.mem_cons_of_mem _ he, h1⟩
def openL (key : Tg) (b : List UInt8) : List BoxE → Option (List UInt8)
 | [] => none
 | e :: r => if e.key = key ∧ e.box = b then some e.plain else openL key b r
theorem openL_app (k : Tg) (b : List UInt8) (L : List BoxE) (e : BoxE) : openL k b (L ++ [e]) = match openL k b L with
  | some t => some t
  | none => if e.key = k ∧ e.box = b then some e.plain else none := by
 induction L with
 | nil => rfl
 | cons x r ih =>
  simp only [List.cons_append, openL]
  split
  ·rfl
  ·exact ih
theorem openL_some {k : Tg} {b p : List UInt8} : ∀ {L : List BoxE}, openL k b L = some p → ∃ e ∈ L, e.key = k ∧ e.box = b ∧ e.plain = p
 | [], h => by cases h
 | x :: r, h => by
  simp only [openL] at h
  split at h
  ·rename_i hc
   injection h with h
   exact ⟨x, List.mem_cons_self .., hc.1, hc.2, h⟩
  ·obtain ⟨e, he, h1⟩ := openL_some h
   exact ⟨e, List.mem_cons_of_mem _ he, h1⟩
theorem openL_of {k : Tg} {b : List UInt8} : ∀ {L : List BoxE} {e : BoxE}, e ∈ L → e.key = k → e.box = b → ∃ p, openL k b L = some p
 | [], _, h, _, _ => by cases h
 | x :: r, e, h, h1, h2 => by
  simp only [openL]
  split
  ·exact ⟨_, rfl⟩
  ·rename_i hn
   rcases List.mem_cons.1 h with rfl | h
   ·exact absurd ⟨h1, h2⟩ hn
   ·exact openL_of h h1 h2
section
variable [W : W32]
theorem strm_strm (key : List UInt8) (n : Int) (b : List UInt8) (h : ∀ q, (kst key n q).1.length = 32 := fun q => (kst key n q).2) : strmB key n (strmB key n b) = b := by
 have hl := strmB_len key n b
 refine List.ext_getElem (by rw [strmB_len, hl]) fun i h1 h2 => ?_
 have h32 : i % 32 < (kst key n (i / 32)).1.length := by rw [h]; exact Nat.mod_lt _ (by decide)
 rw [strmB_at key n (strmB key n b) i (by omega) h1 h32, strmB_at key n b i h2 (by omega) h32, x8_x8]
structure AlgOk (a : Alg) : Prop where
 mf : a.free = true → ∀ i (h : i < a.macs.length), (a.macs[i]).tag = symT 109 ((i : Int) + 1)
 mn : a.free = false → ∀ e ∈ a.macs, e.tag = hmacT e.key.1 e.msg
 bf : a.free = true → ∀ i (h : i < a.boxes.length), (a.boxes[i]).box = (symT 98 ((i : Int) + 1)).1 ++ List.replicate ((a.boxes[i]).plain.length + 8) 0
 bn : a.free = false → ∀ e ∈ a.boxes, e.box = sealB e.key.1 e.nonce e.plain
 mu : ∀ e ∈ a.macs, entL e.key e.msg a.macs = some e.tag
 ml : ∀ e ∈ a.macs, e.msg.length ≤ 4096
 bp : ∀ e ∈ a.boxes, e.plain.length ≤ 256 ∧ 0 ≤ e.nonce ∧ e.nonce ≤ 281474976710656
theorem AlgOk.nil (fr : Bool) (sd : Tg) (fs : Int) : AlgOk ⟨fr, sd, fs, [], []⟩ :=
 ⟨fun _ i h => absurd h (by simp), fun _ e he => absurd he (by simp), fun _ i h => absurd h (by simp), fun _ e he => absurd he (by simp), fun e he => absurd he (by simp), fun e he => absurd he (by simp), fun e he => absurd he (by simp)⟩
theorem AlgOk.zero : AlgOk alg0 := .nil _ _ _
theorem AlgOk.key {a : Alg} (h : AlgOk a) : AlgOk (keyS a).1 := by
 unfold keyS
 split
 ·exact .zero
 ·exact ⟨h.mf, h.mn, h.bf, h.bn, h.mu, h.ml, h.bp⟩
theorem AlgOk.mac {a : Alg} (h : AlgOk a) (key : Tg) (msg : List UInt8) : AlgOk (macS a key msg).1 := by
 by_cases h1 : 4096 < msg.length
 ·rw [macS_long h1]; exact .zero
 ·cases he : entL key msg a.macs with
  | some t => rw [macS_found h1 he]; exact h
  | none =>
   by_cases hf : 65536 ≤ a.macs.length
   ·rw [macS_full h1 he hf]; exact .zero
   ·rw [macS_new h1 he hf]
    refine ⟨fun hfr i hi => ?_, fun hfr e hm => ?_, h.bf, h.bn, fun e hm => ?_, fun e hm => ?_, h.bp⟩
    ·simp only [List.length_append, List.length_singleton] at hi
     rcases Nat.lt_or_ge i a.macs.length with hl | hl
     ·simp only [List.getElem_append_left hl]; exact h.mf hfr i hl
     ·obtain rfl : i = a.macs.length := by omega
      simp only [List.getElem_append_right (Nat.le_refl _), Nat.sub_self, List.getElem_singleton]
      rw [if_pos hfr]
    ·rcases List.mem_append.1 hm with hm | hm
     ·exact h.mn hfr e hm
     ·rw [List.mem_singleton.1 hm]; simp only
      have : a.free = false := hfr
      rw [this]; rfl
    ·rw [entL_app]
     rcases List.mem_append.1 hm with hm | hm
     ·rw [h.mu e hm]
     ·rw [List.mem_singleton.1 hm]; simp only; rw [he]; simp
    ·rcases List.mem_append.1 hm with hm | hm
     ·exact h.ml e hm
     ·rw [List.mem_singleton.1 hm]; simp only; omega
theorem AlgOk.sealed {a : Alg} (h : AlgOk a) (key : Tg) (nonce : Int) (plain : List UInt8) : AlgOk (sealS a key nonce plain).1 := by
 unfold sealS
 split
 ·exact .zero
 ·split
  ·exact .zero
  ·rename_i hn hp
   split
   ·exact h
   ·split
    ·exact .zero
    ·refine ⟨h.mf, h.mn, fun hfr i hi => ?_, fun hfr e hm => ?_, h.mu, h.ml, fun e hm => ?_⟩
     ·simp only [List.length_append, List.length_singleton] at hi
      rcases Nat.lt_or_ge i a.boxes.length with hl | hl
      ·simp only [List.getElem_append_left hl]; exact h.bf hfr i hl
      ·obtain rfl : i = a.boxes.length := by omega
       simp only [List.getElem_append_right (Nat.le_refl _), Nat.sub_self, List.getElem_singleton]
       unfold sealN
       rw [if_pos hfr]
     ·rcases List.mem_append.1 hm with hm | hm
      ·exact h.bn hfr e hm
      ·rw [List.mem_singleton.1 hm]; simp only
       unfold sealN
       have : a.free = false := hfr
       rw [this]; rfl
     ·rcases List.mem_append.1 hm with hm | hm
      ·exact h.bp e hm
      ·rw [List.mem_singleton.1 hm]; simp only; omega
theorem macS_free {a : Alg} {key : Tg} {msg : List UInt8} (h : (macS a key msg).2.2 = 0) : (macS a key msg).1.free = a.free ∧ (macS a key msg).1.seed = a.seed ∧ (macS a key msg).1.fresh = a.fresh ∧ (macS a key msg).1.boxes = a.boxes := by
 by_cases h1 : 4096 < msg.length
 ·rw [macS_long h1] at h; cases h
 ·cases he : entL key msg a.macs with
  | some t => rw [macS_found h1 he]; exact ⟨rfl, rfl, rfl, rfl⟩
  | none =>
   by_cases hf : 65536 ≤ a.macs.length
   ·rw [macS_full h1 he hf] at h; cases h
   ·rw [macS_new h1 he hf]; exact ⟨rfl, rfl, rfl, rfl⟩
theorem macS_ok {a : Alg} (key : Tg) {msg : List UInt8} (h : msg.length ≤ 4096) (hl : a.macs.length < 65536) : (macS a key msg).2.2 = 0 := by
 cases he : entL key msg a.macs with
 | some t => rw [macS_found (by omega) he]
 | none => rw [macS_new (by omega) he (by omega)]
theorem keyS_ok {a : Alg} (h : a.fresh < 65536) : keyS a = ({ a with fresh := a.fresh + 1 }, if a.free then symT 107 (a.fresh + 1) else derT a.seed (a.fresh + 1), 0) := by
 unfold keyS; rw [if_neg (by omega)]
theorem sealS_ok {a : Alg} (key : Tg) {nonce : Int} {plain : List UInt8} (h0 : 0 ≤ nonce) (h1 : nonce ≤ 281474976710656) (hp : plain.length ≤ 256) (hl : a.boxes.length < 65536) : (sealS a key nonce plain).2.2 = 0 := by
 unfold sealS
 rw [if_neg (by omega), if_neg (by omega)]
 split
 ·rfl
 ·rw [if_neg (by omega)]
theorem sealS_free {a : Alg} {key : Tg} {nonce : Int} {plain : List UInt8} (h : (sealS a key nonce plain).2.2 = 0) : (sealS a key nonce plain).1.free = a.free ∧ (sealS a key nonce plain).1.macs = a.macs ∧ (sealS a key nonce plain).1.fresh = a.fresh ∧ (sealS a key nonce plain).1.seed = a.seed := by
 unfold sealS at h ⊢
 split at h
 ·cases h
 ·rename_i h1
  split at h
  ·cases h
  ·rename_i h2
   rw [if_neg h1, if_neg h2]
   split at h
   ·exact ⟨rfl, rfl, rfl, rfl⟩
   ·split at h
    ·cases h
    ·rename_i h3
     rw [if_neg h3]; exact ⟨rfl, rfl, rfl, rfl⟩
def openS (a : Alg) (key : Tg) (b : List UInt8) : List UInt8 × Nat :=
 if a.free = true then (match openL key b a.boxes with | some p => (p, 0) | none => ([], 14))
 else if b.length < 40 ∨ 296 < b.length then ([], 14)
 else if (hmacT key.1 ([98, 111, 120] ++ b.take (b.length - 32))).1 = b.drop (b.length - 32) then (strmB key.1 (be8 (b.take 8) : Int) ((b.take (b.length - 32)).drop 8), 0) else ([], 14)
theorem openL_ok {a : Alg} (ok : AlgOk a) (hl : a.boxes.length ≤ 1000000) (hfr : a.free = true) {e : BoxE} (he : e ∈ a.boxes) : openL e.key e.box a.boxes = some e.plain := by
 obtain ⟨p, hp⟩ := openL_of he rfl rfl
 obtain ⟨e', he', k1, k2, k3⟩ := openL_some hp
 obtain ⟨i, hi, rfl⟩ := List.getElem_of_mem he
 obtain ⟨j, hj, rfl⟩ := List.getElem_of_mem he'
 rw [ok.bf hfr i hi, ok.bf hfr j hj] at k2
 have := symApp_inj (by omega) (by omega) (by omega) (by omega) k2
 obtain rfl : j = i := by omega
 rw [hp, ← k3]
theorem sealB_len (key : List UInt8) (nonce : Int) (plain : List UInt8) : (sealB key nonce plain).length = plain.length + 40 := by
 unfold sealB
 rw [List.length_append, List.length_append, eightB_len, strmB_len, (hmacT _ _).2]; omega
theorem open_sealB {a : Alg} (hfr : a.free = false) (key : Tg) {nonce : Int} {plain : List UInt8} (h0 : 0 ≤ nonce) (h1 : nonce ≤ 281474976710656) (hp : plain.length ≤ 256) : openS a key (sealB key.1 nonce plain) = (plain, 0) := by
 have hl := sealB_len key.1 nonce plain
 have hs := strmB_len key.1 nonce plain
 have he := eightB_len nonce
 unfold openS
 rw [hfr, if_neg (by simp), if_neg (by omega)]
 have hA : (eightB nonce ++ strmB key.1 nonce plain).length = (sealB key.1 nonce plain).length - 32 := by rw [List.length_append, hl]; omega
 have ht : (sealB key.1 nonce plain).take ((sealB key.1 nonce plain).length - 32) = eightB nonce ++ strmB key.1 nonce plain := by
  rw [← hA]; unfold sealB; rw [List.take_left]
 have hd : (sealB key.1 nonce plain).drop ((sealB key.1 nonce plain).length - 32) = (hmacT key.1 ([98, 111, 120] ++ (eightB nonce ++ strmB key.1 nonce plain))).1 := by
  rw [← hA]; unfold sealB; rw [List.drop_left]
 have h8 : (sealB key.1 nonce plain).take 8 = eightB nonce := by
  unfold sealB; rw [List.append_assoc, ← he, List.take_left]
 have h8d : (eightB nonce ++ strmB key.1 nonce plain).drop 8 = strmB key.1 nonce plain := by rw [← he, List.drop_left]
 rw [ht, hd, if_pos rfl, h8, h8d, be8_eight nonce h0 (by omega), strm_strm]
theorem open_seal {a : Alg} (ok : AlgOk a) (hl : a.boxes.length ≤ 900000) {key : Tg} {nonce : Int} {plain : List UInt8} (h : (sealS a key nonce plain).2.2 = 0) : openS (sealS a key nonce plain).1 key (sealS a key nonce plain).2.1 = (plain, 0) := by
 have ok' := ok.sealed key nonce plain
 have hf := sealS_free h
 have hne : ∃ e ∈ (sealS a key nonce plain).1.boxes, e.key = key ∧ e.nonce = nonce ∧ e.plain = plain ∧ e.box = (sealS a key nonce plain).2.1 := by
  unfold sealS at h ⊢
  split at h
  ·cases h
  ·rename_i h1
   split at h
   ·cases h
   ·rename_i h2
    rw [if_neg h1, if_neg h2]
    split at h
    ·rename_i b hb
     obtain ⟨e, he, k⟩ := boxL_mem hb
     exact ⟨e, he, k⟩
    ·split at h
     ·cases h
     ·rename_i h3
      rw [if_neg h3]
      exact ⟨_, List.mem_append_right _ (List.mem_singleton.2 rfl), rfl, rfl, rfl, rfl⟩
 have hl' : (sealS a key nonce plain).1.boxes.length ≤ 1000000 := by
  unfold sealS at h ⊢
  split at h
  ·cases h
  ·rename_i h1
   split at h
   ·cases h
   ·rename_i h2
    rw [if_neg h1, if_neg h2]
    split at h
    ·simp only; omega
    ·split at h
     ·cases h
     ·rename_i h3
      rw [if_neg h3]; simp; omega
 obtain ⟨e, he, k1, k2, k3, k4⟩ := hne
 have hp := ok'.bp e he
 cases hfr : (sealS a key nonce plain).1.free with
 | true =>
  have := openL_ok ok' hl' hfr he
  rw [k1, k4] at this
  unfold openS
  rw [hfr, if_pos rfl, this, k3]
 | false =>
  have hb := ok'.bn hfr e he
  rw [← k4, hb, k1, k2, k3]
  exact open_sealB hfr key (by omega) (by omega) (by rw [← k3]; omega)
end
end Go.Proofs.YtdmjpolnbmoehaaDoor
