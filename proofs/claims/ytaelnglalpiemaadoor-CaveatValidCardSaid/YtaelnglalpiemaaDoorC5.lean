/- Tags: 32 bytes. Lists of integers. -/
import Derived.Test.YtaelnglalpiemaaDoorC4
namespace Go.Ab
open Go.RowKit

abbrev Tg := {b : List UInt8 // b.length = 32}
def tagAV (t : Tg) : AV := .agg (t.1.map byteAV)
theorem tagAV_eq (t : Tg) : tagAV t = .agg (t.1.map byteAV) := rfl
@[go_sem] theorem tagAV_sz (t : Tg) : (tagAV t).sz = 32 := by
  rw [tagAV]; simp only [AV.sz, szl_bytes]; exact t.2
@[go_sem] theorem tagAV_isAgg (t : Tg) : (tagAV t).isAgg = true := rfl
theorem celll_bytes (bs : List UInt8) : AV.celll (bs.map byteAV) = true := by
  rw [AV.celll_all, List.all_eq_true]; intro x hx; obtain ⟨b, _, rfl⟩ := List.mem_map.1 hx; rfl
@[go_sem] theorem tagAV_cell (t : Tg) : (tagAV t).cell = true := celll_bytes t.1
@[go_sem] theorem tagAV_ren (f : Nat → Option Nat) (t : Tg) : (tagAV t).ren f = tagAV t := by
  simp only [tagAV, AV.ren, renl_bytes]
@[go_sem] theorem renl_tags (f : Nat → Option Nat) (l : List Tg) : AV.renl f (l.map tagAV) = l.map tagAV := by
  rw [AV.renl_map, List.map_map]; exact List.map_congr_left fun t _ => tagAV_ren f t
@[go_sem] theorem all_tags1 (l : List Tg) : (l.map tagAV).all (fun x => x.sz == 32) = true := by
  rw [List.all_eq_true]; intro x hx; obtain ⟨b, _, rfl⟩ := List.mem_map.1 hx; simp [tagAV_sz]
@[go_sem] theorem all_tags2 (l : List Tg) : (l.map tagAV).all (fun x => x.sz == 32 && x.cell) = true := by
  rw [List.all_eq_true]; intro x hx; obtain ⟨b, _, rfl⟩ := List.mem_map.1 hx; simp [tagAV_sz, tagAV_cell]
@[go_sem] theorem evBin_tag {P : Program} {T : TypeId} (h : eqTop P T = some (.bytes 32)) (a b : Tg) : evBin P .eql T (tagAV a) (tagAV b) = some ⟨[], .lit (.bool (decide (a = b))), []⟩ := by
  have e : (a.1 == b.1) = decide (a = b) := by
    rw [Bool.eq_iff_iff]; simp [Subtype.ext_iff]
  simp only [evBin, tagAV, evEqA, h, eqA, bytesOf0_map, a.2, b.2, and_self, if_true, e]
@[go_sem] theorem evBin_tagN {P : Program} {T : TypeId} (h : eqTop P T = some (.bytes 32)) (a b : Tg) : evBin P .neq T (tagAV a) (tagAV b) = some ⟨[], .lit (.bool (!decide (a = b))), []⟩ := by
  have e : (a.1 == b.1) = decide (a = b) := by
    rw [Bool.eq_iff_iff]; simp [Subtype.ext_iff]
  simp only [evBin, tagAV, evEqA, h, eqA, bytesOf0_map, a.2, b.2, and_self, if_true, e]
/-- The tag of 32 zeros. -/
def zeroTag : Tg := ⟨List.replicate 32 0, by simp⟩
theorem zeroTag_eq : AV.agg ((List.replicate 32 (0 : UInt8)).map byteAV) = tagAV zeroTag := rfl

def setT (t : Tg) (i : Nat) (b : UInt8) : Tg := ⟨t.1.set i b, by simp [t.2]⟩
@[go_sem] theorem tag_get (t : Tg) (i : Nat) (h : i < 32) : (tagAV t).get [i] = some (byteAV (t.1[i]'(by rw [t.2]; exact h))) := by
  have h2 : i < t.1.length := by rw [t.2]; exact h
  simp [tagAV, AV.get, h2]
@[go_sem] theorem tag_offs (t : Tg) (i : Nat) (h : i < 32) : (tagAV t).offs [i] = i := by
  have h2 : i < t.1.length := by rw [t.2]; exact h
  simp only [tagAV, AV.offs, ← List.map_take, szl_bytes, List.length_take]
  simp [h2, AV.offs]; omega
theorem tag_put (t : Tg) (i : Nat) (b : UInt8) (h : i < 32) : (tagAV t).put [i] (byteAV b) = tagAV (setT t i b) := by
  have h2 : i < t.1.length := by rw [t.2]; exact h
  simp [tagAV, AV.put, h2, setT, List.map_set]
@[go_sem] theorem tag_putn (t : Tg) (i : Nat) (n : Nat) (h : i < 32) (hn : n < 256) : (tagAV t).put [i] (.lit (.int .u8 (n : Int))) = tagAV (setT t i (UInt8.ofNat n)) := by
  have e : AV.lit (.int .u8 (n : Int)) = byteAV (UInt8.ofNat n) := by simp [byteAV, Nat.mod_eq_of_lt hn]
  rw [e, tag_put t i _ h]

@[go_sem] theorem agg_zero : AV.agg (List.replicate 32 (byteAV 0)) = tagAV zeroTag := by rw [← zeroTag_eq, List.map_replicate]
@[go_sem] theorem agg_tag (t : Tg) : AV.agg (t.1.map byteAV) = tagAV t := rfl
@[go_sem high] theorem fillA_tag (t : Tg) (i : Nat) (a : Int) (r : List (Nat × AV)) (hi : i < 32) (h0 : 0 ≤ a) (h1 : a < 256) :
    fillA (fun i => some (i, 1)) (t.1.map byteAV) ((i, .lit (.int .u8 a)) :: r) = fillA (fun i => some (i, 1)) ((setT t i (UInt8.ofNat a.toNat)).1.map byteAV) r := by
  have h2 : i < t.1.length := by rw [t.2]; exact hi
  obtain ⟨n, rfl⟩ := Int.eq_ofNat_of_zero_le h0
  have e : AV.lit (.int .u8 (n : Int)) = byteAV (UInt8.ofNat n) := by simp [byteAV, Nat.mod_eq_of_lt (show n < 256 by omega)]
  have e2 : AV.szl ((t.1.map byteAV).take i) = i := by rw [szl_take_bytes]; omega
  rw [e, fillA_cons, e2]
  simp [h2, AV.sz, byteAV, setT, List.map_set]
@[go_sem high] theorem fillA_tag0 (t : Tg) : fillA (fun i => some (i, 1)) (t.1.map byteAV) [] = some (t.1.map byteAV) := fillA_nil _ _

def intAV (x : Int) : AV := .lit (.int .i64 x)
@[go_sem] theorem intAV_sz (x : Int) : (intAV x).sz = 1 := rfl
@[go_sem] theorem intAV_isAgg (x : Int) : (intAV x).isAgg = false := rfl
@[go_sem] theorem renl_ints (f : Nat → Option Nat) (l : List Int) : AV.renl f (l.map intAV) = l.map intAV := by
  rw [AV.renl_map, List.map_map]; rfl

theorem ty_tag {P : Program} {m size : Nat} {t e : TypeId} {x : AV} (ht : arrInfo P t = some (32, e, size)) (he : byteTy P e = true) (h : tyAV P (m + 2) t x) : ∃ a : Tg, True ∧ x = tagAV a := by
  obtain ⟨bs, h1, rfl⟩ := ty_bytearr ht he h
  exact ⟨⟨bs, h1⟩, trivial, rfl⟩
theorem ty_tags {P : Program} {m size : Nat} {t t' e : TypeId} {x : AV} (hs : sliceTy P t' = some t) (ht : arrInfo P t = some (32, e, size)) (he : byteTy P e = true) (h : tyAV P (m + 3) t' x) : ∃ l : List Tg, l.length ≤ 9223372036854775807 ∧ x = .slice none (l.map tagAV) := by
  obtain ⟨l, h1, h2⟩ := ty_list hs (fun y hy => ty_tag ht he hy) h
  exact ⟨l, h1.1, h2⟩

/-! ### Strings as lists of bytes -/
@[go_sem] theorem bstr_size (l : List UInt8) : (ByteArray.mk l.toArray).size = l.length := by simp [ByteArray.size]
@[go_sem] theorem bstr_toList (l : List UInt8) : (ByteArray.mk l.toArray).toList = l := by rw [ByteArray.toList_eq]
@[go_sem] theorem bstr_append (a b : List UInt8) : ByteArray.mk a.toArray ++ ByteArray.mk b.toArray = ByteArray.mk (a ++ b).toArray := by
  apply ByteArray.ext
  simp
@[go_sem] theorem bstr_extract (l : List UInt8) (i j : Nat) : (ByteArray.mk l.toArray).extract i j = ByteArray.mk ((l.take j).drop i).toArray := by
  apply ByteArray.ext
  simp [List.drop_take]
attribute [go_sem] strV
def strAV (l : List UInt8) : AV := .lit (.string ⟨l.toArray⟩)
@[go_sem] theorem strAV_sz (l : List UInt8) : (strAV l).sz = 1 := rfl
@[go_sem] theorem strAV_isAgg (l : List UInt8) : (strAV l).isAgg = false := rfl
@[go_sem] theorem strAV_cell (l : List UInt8) : (strAV l).cell = true := rfl
@[go_sem] theorem strAV_ren (f : Nat → Option Nat) (l : List UInt8) : (strAV l).ren f = strAV l := rfl
@[go_sem] theorem renl_strs (f : Nat → Option Nat) (l : List (List UInt8)) : AV.renl f (l.map strAV) = l.map strAV := by
  rw [AV.renl_map, List.map_map]; rfl
@[go_sem] theorem all_strs1 (l : List (List UInt8)) : (l.map strAV).all (fun x => x.sz == 1) = true := by
  rw [List.all_eq_true]; intro x hx; obtain ⟨b, _, rfl⟩ := List.mem_map.1 hx; rfl
@[go_sem] theorem all_strs2 (l : List (List UInt8)) : (l.map strAV).all (fun x => x.sz == 1 && x.cell) = true := by
  rw [List.all_eq_true]; intro x hx; obtain ⟨b, _, rfl⟩ := List.mem_map.1 hx; rfl
theorem i64_of_wf {a : Int} (h : (Lit.int .i64 a).wf = true) : -9223372036854775808 ≤ a ∧ a ≤ 9223372036854775807 := by
  have hw : IntKind.i64.min ≤ a ∧ a ≤ IntKind.i64.max := by simpa [Lit.wf] using h
  have e1 : IntKind.i64.min = -9223372036854775808 := by decide
  have e2 : IntKind.i64.max = 9223372036854775807 := by decide
  omega
@[go_sem] theorem bytesOf_nil : bytesOf [] = some [] := rfl
@[go_sem] theorem bytesOf_lit (n : Int) (r : List AV) (h0 : 0 ≤ n) (h1 : n < 256) : bytesOf (.lit (.int .u8 n) :: r) = (bytesOf r).map (UInt8.ofNat n.toNat :: ·) := by
  rw [bytesOf, if_pos ⟨h0, h1⟩]
@[go_sem high] theorem bytesOf_byte (c : UInt8) (r : List AV) : bytesOf (.lit (.int .u8 c.toNat) :: r) = (bytesOf r).map (c :: ·) := by
  have h := c.toNat_lt
  rw [bytesOf_lit _ _ (by omega) (by omega)]
  simp
@[go_sem] theorem bytesOf_byteAV (c : UInt8) (r : List AV) : bytesOf (byteAV c :: r) = (bytesOf r).map (c :: ·) := bytesOf_byte c r
@[go_sem] theorem bytesOf_app (l : List UInt8) (r : List AV) : bytesOf (l.map byteAV ++ r) = (bytesOf r).map (l ++ ·) := by
  induction l with
  | nil => cases h : bytesOf r <;> simp [h]
  | cons b l ih =>
    rw [List.map_cons, List.cons_append, bytesOf_byteAV, ih]
    cases bytesOf r <;> rfl
@[go_sem] theorem bytesOf_mapB (l : List UInt8) : bytesOf (l.map byteAV) = some l := by
  have := bytesOf_app l []
  rw [List.append_nil] at this
  rw [this, bytesOf_nil]; simp
@[go_sem] theorem wrap_u64r {x : Int} (h1 : 0 ≤ x) (h2 : x ≤ 18446744073709551615) : IntKind.u64.wrap x = x := by
  have : IntKind.u64.wrap x = x % 18446744073709551616 := by simp [IntKind.wrap, IntKind.bits, IntKind.signed]
  rw [this]; omega
end Go.Ab
