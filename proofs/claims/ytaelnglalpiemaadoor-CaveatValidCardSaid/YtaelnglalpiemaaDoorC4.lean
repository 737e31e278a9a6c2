/- Data of the common kinds: bytes, strings, lists. -/
import Derived.Test.YtaelnglalpiemaaDoorC3
namespace Go.Ab
open Go.RowKit

theorem list_map_of {α : Type} {R : α → Prop} {f : α → AV} : ∀ {xs : List AV}, (∀ y ∈ xs, ∃ d, R d ∧ y = f d) → ∃ ds : List α, (∀ d ∈ ds, R d) ∧ xs = ds.map f ∧ ds.length = xs.length
  | [], _ => ⟨[], fun d h => (by cases h), rfl, rfl⟩
  | x :: xs, h => by
    obtain ⟨d, h1, h2⟩ := h x (List.mem_cons_self ..)
    obtain ⟨ds, h3, h4, h5⟩ := list_map_of (xs := xs) fun y hy => h y (List.mem_cons_of_mem _ hy)
    refine ⟨d :: ds, fun e he => ?_, by simp [h2, ← h4], by simp [h5]⟩
    rcases List.mem_cons.1 he with rfl | he
    · exact h1
    · exact h3 e he

theorem ty_int {P : Program} {m : Nat} {t : TypeId} {k : IntKind} {x : AV} (ht : intTy P t = some k) (h : tyAV P (m + 1) t x) : ∃ n, (Lit.int k n).wf = true ∧ x = .lit (.int k n) := by
  unfold tyAV at h
  rw [intTy_sound ht] at h
  obtain ⟨n, h1, h2⟩ := h
  exact ⟨n, h2, h1⟩
theorem ty_bool {P : Program} {m : Nat} {t : TypeId} {x : AV} (ht : boolTy P t = true) (h : tyAV P (m + 1) t x) : ∃ b, x = .lit (.bool b) := by
  have hb : P.underlying t = some .bool := by
    unfold boolTy at ht
    split at ht
    · assumption
    · cases ht
  unfold tyAV at h
  rw [hb] at h
  exact h
theorem ty_str {P : Program} {m : Nat} {t : TypeId} {x : AV} (ht : strTy P t = true) (h : tyAV P (m + 1) t x) : ∃ l : List UInt8, l.length ≤ 9223372036854775807 ∧ x = .lit (.string ⟨l.toArray⟩) := by
  unfold tyAV at h
  rw [strTy_sound ht] at h
  obtain ⟨l, h1, h2⟩ := h
  exact ⟨l, h2, h1⟩
theorem ty_slice {P : Program} {m : Nat} {t e : TypeId} {x : AV} (ht : sliceTy P t = some e) (h : tyAV P (m + 1) t x) : ∃ xs, xs.length ≤ 9223372036854775807 ∧ (∀ y ∈ xs, tyAV P m e y) ∧ x = .slice none xs := by
  unfold tyAV at h
  rw [sliceTy_sound ht] at h
  obtain ⟨xs, h1, h2, h3⟩ := h
  exact ⟨xs, h2, h3, h1⟩
theorem ty_byte {P : Program} {m : Nat} {t : TypeId} {x : AV} (ht : byteTy P t = true) (h : tyAV P (m + 1) t x) : ∃ b : UInt8, True ∧ x = byteAV b := by
  have he : P.underlying t = some (.int .u8) := by
    unfold byteTy at ht
    split at ht
    · assumption
    · cases ht
  unfold tyAV at h
  rw [he] at h
  obtain ⟨n, rfl, hw⟩ := h
  obtain ⟨b, hb, _⟩ := byte_of_wf hw
  exact ⟨b, trivial, hb⟩
theorem ty_bytes {P : Program} {m : Nat} {t e : TypeId} {x : AV} (ht : sliceTy P t = some e) (he : byteTy P e = true) (h : tyAV P (m + 2) t x) : ∃ bs : List UInt8, bs.length ≤ 9223372036854775807 ∧ x = .slice none (bs.map byteAV) := by
  obtain ⟨xs, h1, h2, rfl⟩ := ty_slice ht h
  obtain ⟨bs, _, h3, h4⟩ := list_map_of fun y hy => ty_byte he (h2 y hy)
  exact ⟨bs, by omega, by rw [h3]⟩
theorem ty_ints {P : Program} {m : Nat} {t e : TypeId} {k : IntKind} {x : AV} (ht : sliceTy P t = some e) (he : intTy P e = some k) (h : tyAV P (m + 2) t x) : ∃ zs : List Int, (zs.length ≤ 9223372036854775807 ∧ ∀ z ∈ zs, (Lit.int k z).wf = true) ∧ x = .slice none (zs.map fun z => .lit (.int k z)) := by
  obtain ⟨xs, h1, h2, rfl⟩ := ty_slice ht h
  obtain ⟨zs, h3, h4, h5⟩ := list_map_of fun y hy => ty_int he (h2 y hy)
  exact ⟨zs, ⟨by omega, h3⟩, by rw [h4]⟩
theorem ty_bytearr {P : Program} {m n size : Nat} {t e : TypeId} {x : AV} (ht : arrInfo P t = some (n, e, size)) (he : byteTy P e = true) (h : tyAV P (m + 2) t x) : ∃ bs : List UInt8, bs.length = n ∧ x = .agg (bs.map byteAV) := by
  unfold tyAV at h
  rw [arrTy_sound (arrInfo_sound ht).1] at h
  obtain ⟨xs, rfl, h1, h2⟩ := h
  obtain ⟨bs, _, h3, h4⟩ := list_map_of fun y hy => ty_byte he (h2 y hy)
  exact ⟨bs, by omega, by rw [h3]⟩
/-- A list of things of one kind. -/
theorem ty_list {P : Program} {α : Type} {R : α → Prop} {f : α → AV} {m : Nat} {t e : TypeId} {x : AV} (ht : sliceTy P t = some e) (he : ∀ y, tyAV P m e y → ∃ d, R d ∧ y = f d) (h : tyAV P (m + 1) t x) : ∃ l : List α, (l.length ≤ 9223372036854775807 ∧ ∀ d ∈ l, R d) ∧ x = .slice none (l.map f) := by
  obtain ⟨xs, h1, h2, rfl⟩ := ty_slice ht h
  obtain ⟨l, h3, h4, h5⟩ := list_map_of fun y hy => he y (h2 y hy)
  exact ⟨l, ⟨by omega, h3⟩, by rw [h4]⟩
/-- The fields of a struct. -/
theorem ty_struct {P : Program} {m : Nat} {t : TypeId} {fs : Array Field} {x : AV} (ht : P.underlying t = some (.struct fs)) (h : tyAV P (m + 1) t x) : ∃ xs, x = .agg xs ∧ xs.length = fs.size ∧ ∀ (i : Nat) (f : Field) (y : AV), fs[i]? = some f → xs[i]? = some y → tyAV P m f.type y := by
  unfold tyAV at h
  rw [ht] at h
  exact h
end Go.Ab
