/- Texts C1p, C3p, C4p, C5p, Fp, N1p, K3p, K5p, O0, O4, O5, O7, joined. -/
import Derived.Test.YtdmjpolnbmoehaaGreatDoorMS1

namespace Go.Ab
open Go.RowKit
theorem byte_of_wf {a : Int} (h : (Lit.int .u8 a).wf = true) : ∃ b : UInt8, AV.lit (.int .u8 a) = byteAV b ∧ a = (b.toNat : Int) := by
 have hw : IntKind.u8.min ≤ a ∧ a ≤ IntKind.u8.max := by simpa [Lit.wf] using h
 have e1 : IntKind.u8.min = 0 := by decide
 have e2 : IntKind.u8.max = 255 := by decide
 obtain ⟨n, rfl⟩ := Int.eq_ofNat_of_zero_le (show 0 ≤ a by omega)
 refine ⟨UInt8.ofNat n, ?_, ?_⟩
 ·simp only [byteAV]
  rw [UInt8.toNat_ofNat', Nat.mod_eq_of_lt (by omega)]
 ·rw [UInt8.toNat_ofNat', Nat.mod_eq_of_lt (by omega)]
end Go.Ab

namespace Go.Ab
open Go.RowKit Go.ChangeShapes
def layB (P : Program) : List Field → Nat → Nat → Bool
 | [], off, tot => off == tot
 | f :: fs, off, tot => f.offset == off && layB P fs (off + P.cellsOf f.type) tot
def dataTy (P : Program) : Nat → TypeId → Bool
 | 0, _ => false
 | m + 1, t => match P.underlying t with
  | some .bool => P.cellsOf t == 1
  | some (.int _) => P.cellsOf t == 1
  | some .string => P.cellsOf t == 1
  | some (.slice e) => dataTy P m e && decide (0 < P.cellsOf e) && P.cellsOf t == 1
  | some (.array n e) => dataTy P m e && P.cellsOf t == n * P.cellsOf e
  | some (.struct fs) => (fs.toList.all fun f => dataTy P m f.type) && layB P fs.toList 0 (P.cellsOf t)
  | _ => false
def aggT (P : Program) (t : TypeId) : Bool :=
 match P.underlying t with
 | some (.array _ _) | some (.struct _) => true
 | _ => false
theorem range_mapM_cells {w : World} {a : Addr} {n : Nat} {cs : List Value} (h : (List.range n).mapM (fun i => w.cell? (a.add i)) = some cs) : cs.length = n ∧ ∀ (i : Nat) (v : Value), cs[i]? = some v → w.cell? (a.add i) = some v := by
 have hl := mapM_some_length h
 refine ⟨by simpa using hl, fun i v hv => ?_⟩
 have hi : i < n := by have := (List.getElem?_eq_some_iff.1 hv).1; simp at hl; omega
 have := mapM_some_get h i i (by simp [hi])
 rw [this]; exact hv
theorem flat_pieces {cs : List Value} {size : Nat} : ∀ (vs : List Value), cs.length = vs.length * size → (∀ (i : Nat) (v : Value), vs[i]? = some v → v.cells.toList = (cs.drop (i * size)).take size) → flat vs = cs
 | [], hl, _ => by
  simp at hl
  subst hl; rfl
 | v :: vs, hl, h => by
  have h0 := h 0 v rfl
  simp only [Nat.zero_mul, List.drop_zero] at h0
  rw [flat_cons, h0]
  simp only [List.length_cons, Nat.add_mul, Nat.one_mul] at hl
  have ih := flat_pieces (cs := cs.drop size) (size := size) vs (by rw [List.length_drop]; omega) fun i u hu => by
   have := h (i + 1) u (by simpa using hu)
   rw [this, List.drop_drop]
   congr 2
   rw [Nat.add_mul]; omega
  rw [ih, List.take_append_drop]
theorem flat_fields {P : Program} {cs : List Value} : ∀ (fs : List Field) (vs : List Value) (off : Nat), layB P fs off cs.length = true → vs.length = fs.length → off ≤ cs.length → (∀ (i : Nat) (f : Field) (v : Value), fs[i]? = some f → vs[i]? = some v → v.cells.toList = (cs.drop f.offset).take (P.cellsOf f.type) ∧ v.cells.size = P.cellsOf f.type) → flat vs = cs.drop off
 | [], vs, off, hl, hv, hle, _ => by
  cases vs with
  | nil =>
   simp only [layB, beq_iff_eq] at hl
   rw [hl, List.drop_length]; rfl
  | cons => simp at hv
 | f :: fs, vs, off, hl, hv, hle, h => by
  cases vs with
  | nil => simp at hv
  | cons v vs =>
   simp only [layB, Bool.and_eq_true, beq_iff_eq] at hl
   obtain ⟨h1, h2⟩ := h 0 f v rfl rfl
   have hsz : ((cs.drop off).take (P.cellsOf f.type)).length = P.cellsOf f.type := by rw [← hl.1, ← h1, Array.length_toList, h2]
   rw [List.length_take, List.length_drop] at hsz
   have ih := flat_fields (P := P) (cs := cs) fs vs (off + P.cellsOf f.type) hl.2 (by simpa using hv) (by omega) fun i g u hg hu => h (i + 1) g u (by simpa using hg) (by simpa using hu)
   rw [flat_cons, h1, hl.1, ih, ← List.drop_drop, List.take_append_drop]
theorem list_of {α : Type} {Q : Nat → α → Prop} : ∀ n, (∀ i, i < n → ∃ p, Q i p) → ∃ l : List α, l.length = n ∧ ∀ (i : Nat) (p : α), l[i]? = some p → Q i p
 | 0, _ => ⟨[], rfl, fun i p h => by simp at h⟩
 | n + 1, h => by
  obtain ⟨l, hl, hq⟩ := list_of n fun i hi => h i (by omega)
  obtain ⟨p, hp⟩ := h n (by omega)
  refine ⟨l ++ [p], by simp [hl], fun i q hq' => ?_⟩
  by_cases hi : i < l.length
  ·rw [List.getElem?_append_left hi] at hq'; exact hq i q hq'
  ·rw [List.getElem?_append_right (by omega)] at hq'
   have : i - l.length = 0 := by
    have := (List.getElem?_eq_some_iff.1 hq').1
    simp at this; omega
   rw [this] at hq'
   simp at hq'
   subst hq'
   have : i = n := by omega
   rw [this]; exact hp
theorem weightsAll_mem {H : Type} {P : Program} {e : TypeId} : ∀ {ds : List (DataW H)} {i : Nat} {d : DataW H}, ds[i]? = some d → ∀ n ∈ d.weights P e, n ∈ DataW.weightsAll P e ds
 | d0 :: r, 0, d, h, n, hn => by
  simp only [List.getElem?_cons_zero, Option.some.injEq] at h
  subst h
  simp only [DataW.weightsAll, List.mem_append]
  exact .inl hn
 | d0 :: r, i + 1, d, h, n, hn => by
  simp only [List.getElem?_cons_succ] at h
  simp only [DataW.weightsAll, List.mem_append]
  exact .inr (weightsAll_mem h n hn)
 | [], _, _, h, _, _ => by simp at h
section
variable {H : Type} {enc : TypeId × Value → H} {P : Program} {w : World} {base : Nat} {spare : Nat → Bool} {held : Bool}
theorem trod_rep : ∀ (m : Nat) (t : TypeId), dataTy P m t = true → ∀ (fuel : Nat) (cs : List Value) (x : DataW H × List MemPlace), DataW.trod enc P w base spare held fuel t cs = some x → (∀ n ∈ x.1.weights P t, n ≤ 140737488351232) →
  ∃ (p : AV × Value), p.2.cells.toList = cs ∧ Rep (g0 w) p.1 p.2 ∧ tyAV P m t p.1 ∧ p.2.cells.size = P.cellsOf t ∧ valAgg p.2 = aggT P t ∧ valTup p.2 = false
 | 0, _, h => by simp [dataTy] at h
 | m + 1, t, h => by
  intro fuel cs x hx hw0
  unfold dataTy at h
  unfold tyAV aggT
  split at h
  ·rename_i ht
   obtain ⟨b, rfl, rfl⟩ := DataW.trod_bool ht hx
   simp only [ht]
   exact ⟨(.lit (.bool b), .bool b), rfl, .lit _ rfl, ⟨b, rfl⟩, by simpa [Value.cells] using (beq_iff_eq.1 h).symm, rfl, rfl⟩
  ·rename_i k ht
   obtain ⟨n, rfl, rfl, hw⟩ := DataW.trod_int ht hx
   simp only [ht]
   exact ⟨(.lit (.int k n), .int k n), rfl, .lit _ rfl, ⟨n, rfl, hw⟩, by simpa [Value.cells] using (beq_iff_eq.1 h).symm, rfl, rfl⟩
  ·rename_i ht
   obtain ⟨s, rfl, rfl, hw⟩ := DataW.trod_string ht hx
   simp only [ht]
   refine ⟨(.lit (.string s), .string s), rfl, .lit _ rfl, ⟨s.data.toList, by simp, ?_⟩, by simpa [Value.cells] using (beq_iff_eq.1 h).symm, rfl, rfl⟩
   unfold maxLen at hw
   have : s.data.toList.length = s.size := by simp
   omega
  ·rename_i e ht
   simp only [Bool.and_eq_true, decide_eq_true_eq, beq_iff_eq] at h
   obtain ⟨⟨h1, h2⟩, h3⟩ := h
   simp only [ht]
   rcases DataW.trod_slice ht hx with ⟨rfl, rfl⟩ | ⟨a, len, cap, elems, rest, n, _, rfl, rfl, hba, hlc, hcm, hel, hcell, _⟩
   ·exact ⟨(.slice none [], .slice none 0 0), rfl, AV.le_nils0 _ _ .nils, ⟨[], rfl, by simp, (fun y hy => by cases hy), by simp⟩, by simp [Value.cells, h3], rfl, rfl⟩
   ·have hwu : (DataW.slice (elems.map (·.1)) (rest.map (·.1))).weights P t = ((elems.map (·.1)).length + (rest.map (·.1)).length) * P.bytesOf e :: (DataW.weightsAll P e (elems.map (·.1)) ++ DataW.weightsAll P e (rest.map (·.1))) := by simp only [DataW.weights, ht]
    simp only [hwu] at hw0
    have hwl : len * P.bytesOf e ≤ 140737488351232 := Nat.le_trans (Nat.mul_le_mul_right _ (by rw [List.length_map, hel]; omega)) (hw0 _ (List.mem_cons_self ..))
    have hwe : ∀ (i : Nat) (z : DataW H × List MemPlace), elems[i]? = some z → ∀ n ∈ z.1.weights P e, n ≤ 140737488351232 := fun i z hz n hn =>
     hw0 n (List.mem_cons_of_mem _ (List.mem_append_left _ (weightsAll_mem (i := i) (by rw [List.getElem?_map, hz]; rfl) n hn)))
    obtain ⟨l, hl, hq⟩ := list_of (Q := fun i (p : AV × Value) => Rep (g0 w) p.1 p.2 ∧ tyAV P m e p.1 ∧ p.2.cells.size = P.cellsOf e ∧ ∀ (j : Nat) (v : Value), p.2.cells.toList[j]? = some v → w.cell? ((a.add (i * P.cellsOf e)).add j) = some v) len fun i hi => by
     have hc := hcell i hi
     have hei : elems[i]? = some elems[i] := List.getElem?_eq_getElem (by omega)
     rw [hei] at hc
     simp only [Option.bind_eq_some_iff] at hc
     obtain ⟨cs, hcs, hd⟩ := hc
     unfold World.cells? at hcs
     split at hcs
     ·obtain ⟨hcl, hcc⟩ := range_mapM_cells hcs
      obtain ⟨p, p1, p2, p3, p4, p5, p6⟩ := trod_rep m e h1 n cs _ hd (hwe i _ hei)
      exact ⟨p, p2, p3, p4, by rw [p1]; exact hcc⟩
     ·cases hcs
    have hlen : (l.map (·.1)).length = len := by simp [hl]
    have hsz : ∀ v ∈ l.map (·.2), v.cells.size = P.cellsOf e := fun v hv => by
     obtain ⟨p, hp, rfl⟩ := List.mem_map.1 hv
     obtain ⟨i, hi⟩ := List.getElem?_of_mem hp
     exact (hq i p hi).2.2.1
    have hrep := Rep.slice (g := g0 w) none (l.map (·.1)) (l.map (·.2)) (some a) cap (P.cellsOf e) (by simp) (by rw [hlen]; exact hlc) hcm
     (fun i x v hx hv => by
      rw [List.getElem?_map] at hx hv
      cases hli : l[i]? with
      | none => rw [hli] at hx; cases hx
      | some p => rw [hli] at hx hv; cases hx; cases hv; exact (hq i p hli).1) hsz
     (by
      rw [hlen]
      by_cases h0 : len = 0
      ·exact .inl h0
      ·right
       have hl0 : l[0]? = some l[0] := List.getElem?_eq_getElem (by omega)
       obtain ⟨_, _, q3, q4⟩ := hq 0 _ hl0
       have hc0 : 0 < (l[0]).2.cells.toList.length := by rw [Array.length_toList, q3]; exact h2
       have hcell0 := q4 0 _ (List.getElem?_eq_getElem hc0)
       have hspot : a.spot = none := by
        have := World.cell?_spot hcell0
        simpa [Addr.add] using this
       obtain ⟨b, off, sp⟩ := a
       simp only at hspot
       subst hspot
       have hb : b < w.heap.size := by
        rw [Addr.add_lit, Addr.add_lit] at hcell0
        rcases Nat.lt_or_ge b w.heap.size with h | h
        ·exact h
        ·exfalso
         simp [World.cell?, Array.getElem?_eq_none h] at hcell0
       refine ⟨b, off, rfl, fun j u hu => ?_⟩
       simp only [g0, if_pos hb]
       have hflen : (flat (l.map (·.2))).length = len * P.cellsOf e := by rw [flat_length _ _ hsz, List.length_map, hl]
       have hj : j < len * P.cellsOf e := by rw [← hflen]; exact (List.getElem?_eq_some_iff.1 hu).1
       have hi : j / P.cellsOf e < len := by rw [Nat.div_lt_iff_lt_mul h2]; exact hj
       have hli : l[j / P.cellsOf e]? = some l[j / P.cellsOf e] := List.getElem?_eq_getElem (by omega)
       obtain ⟨_, _, r3, r4⟩ := hq _ _ hli
       have hjm : j % P.cellsOf e < (l[j / P.cellsOf e]).2.cells.toList.length := by rw [Array.length_toList, r3]; exact Nat.mod_lt _ h2
       have hat := flat_at (l.map (·.2)) (P.cellsOf e) hsz (j / P.cellsOf e) (l[j / P.cellsOf e]).2 (by rw [List.getElem?_map, hli]; rfl) (j % P.cellsOf e) _ (List.getElem?_eq_getElem hjm)
       have hsplit : j / P.cellsOf e * P.cellsOf e + j % P.cellsOf e = j := by rw [Nat.mul_comm]; exact Nat.div_add_mod j (P.cellsOf e)
       rw [hsplit, hu] at hat
       have hcl := r4 (j % P.cellsOf e) u (by rw [List.getElem?_eq_getElem hjm]; exact hat.symm)
       rw [Addr.add_lit, Addr.add_lit] at hcl
       rw [← hcl]
       congr 2
       omega) (fun id hid => by cases hid)
    rw [hlen] at hrep
    refine ⟨(.slice none (l.map (·.1)), .slice (some a) len cap), rfl, hrep, ⟨_, rfl, by rw [hlen]; unfold maxLen at hcm; omega, fun y hy => ?_, by rw [hlen]; exact hwl⟩, by simp [Value.cells, h3], rfl, rfl⟩
    obtain ⟨p, hp, rfl⟩ := List.mem_map.1 hy
    obtain ⟨i, hi⟩ := List.getElem?_of_mem hp
    exact (hq i p hi).2.1
  ·rename_i n e ht
   simp only [Bool.and_eq_true, beq_iff_eq] at h
   obtain ⟨h1, h2⟩ := h
   obtain ⟨xs, q, _, rfl, hl, hxl, hf⟩ := DataW.trod_array ht hx
   have hwu : (DataW.agg (xs.map (·.1))).weights P t = DataW.weightsAll P e (xs.map (·.1)) := by simp only [DataW.weights, ht]
   simp only [hwu] at hw0
   have hwe : ∀ (i : Nat) (z : DataW H × List MemPlace), xs[i]? = some z → ∀ n ∈ z.1.weights P e, n ≤ 140737488351232 := fun i z hz n hn =>
    hw0 n (weightsAll_mem (i := i) (by rw [List.getElem?_map, hz]; rfl) n hn)
   simp only [ht]
   obtain ⟨l, hll, hq⟩ := list_of (Q := fun i (p : AV × Value) => Rep (g0 w) p.1 p.2 ∧ tyAV P m e p.1 ∧ p.2.cells.size = P.cellsOf e ∧ p.2.cells.toList = (cs.drop (i * P.cellsOf e)).take (P.cellsOf e)) n fun i hi => by
    have hd := hf i hi
    have hxi : xs[i]? = some (xs[i]'(by omega)) := List.getElem?_eq_getElem (by omega)
    rw [hxi] at hd
    obtain ⟨p, p1, p2, p3, p4, p5, p6⟩ := trod_rep m e h1 q _ _ hd (hwe i _ hxi)
    exact ⟨p, p2, p3, p4, p1⟩
   have hfl : flat (l.map (·.2)) = cs := flat_pieces (size := P.cellsOf e) _ (by rw [hl, h2, List.length_map, hll]) fun i v hv => by
    rw [List.getElem?_map] at hv
    cases hli : l[i]? with
    | none => rw [hli] at hv; cases hv
    | some p => rw [hli] at hv; cases hv; exact (hq i p hli).2.2.2
   refine ⟨(.agg (l.map (·.1)), .agg (flat (l.map (·.2))).toArray), by rw [hfl]; rfl, .agg _ _ (by simp) (fun i x v hx hv => ?_), ⟨_, rfl, by simp [hll], fun y hy => ?_⟩, by simp [Value.cells, hfl, hl], rfl, rfl⟩
   ·rw [List.getElem?_map] at hx hv
    cases hli : l[i]? with
    | none => rw [hli] at hx; cases hx
    | some p => rw [hli] at hx hv; cases hx; cases hv; exact (hq i p hli).1
   ·obtain ⟨p, hp, rfl⟩ := List.mem_map.1 hy
    obtain ⟨i, hi⟩ := List.getElem?_of_mem hp
    exact (hq i p hi).2.1
  ·rename_i fs ht
   simp only [Bool.and_eq_true, List.all_eq_true] at h
   obtain ⟨h1, h2⟩ := h
   obtain ⟨xs, q, _, rfl, hl, hxl, hf⟩ := DataW.trod_struct ht hx
   have hwu : (DataW.agg (xs.map (·.1))).weights P t = DataW.weightsEach P (fs.toList.map (·.type)) (xs.map (·.1)) := by simp only [DataW.weights, ht]
   simp only [hwu] at hw0
   have hwe : ∀ (i : Nat) (f : Field) (z : DataW H × List MemPlace), fs[i]? = some f → xs[i]? = some z → ∀ n ∈ z.1.weights P f.type, n ≤ 140737488351232 := fun i f z hf hz n hn =>
    hw0 n (DataW.weights_mem_each (j := i) (t := f.type) (by rw [List.getElem?_map, Array.getElem?_toList, hf]; rfl) (by rw [List.getElem?_map, hz]; rfl) n hn)
   simp only [ht]
   obtain ⟨l, hll, hq⟩ := list_of (Q := fun i (p : AV × Value) => ∀ f, fs[i]? = some f → Rep (g0 w) p.1 p.2 ∧ tyAV P m f.type p.1 ∧ p.2.cells.size = P.cellsOf f.type ∧ p.2.cells.toList = (cs.drop f.offset).take (P.cellsOf f.type)) fs.size fun i hi => by
    have hfi : fs[i]? = some fs[i] := by simp [hi]
    have hd := hf i _ hfi
    have hxi : xs[i]? = some (xs[i]'(by omega)) := List.getElem?_eq_getElem (by omega)
    rw [hxi] at hd
    obtain ⟨p, p1, p2, p3, p4, p5, p6⟩ := trod_rep m (fs[i]).type (h1 _ (Array.getElem_mem_toList hi)) q _ _ hd (hwe i _ _ hfi hxi)
    exact ⟨p, fun f hf' => by rw [hfi] at hf'; cases hf'; exact ⟨p2, p3, p4, p1⟩⟩
   have hfl : flat (l.map (·.2)) = cs := by
    have := flat_fields (P := P) (cs := cs) fs.toList (l.map (·.2)) 0 (by rw [hl]; exact h2) (by simp [hll]) (Nat.zero_le _) fun i f v hf' hv => by
     rw [List.getElem?_map] at hv
     cases hli : l[i]? with
     | none => rw [hli] at hv; cases hv
     | some p =>
      rw [hli] at hv; cases hv
      obtain ⟨_, _, q3, q4⟩ := hq i p hli f (by simpa using hf')
      exact ⟨q4, q3⟩
    simpa using this
   have hat : ∀ (i : Nat) (p : AV × Value), l[i]? = some p → ∃ f, fs[i]? = some f := fun i p hp => by
    have : i < fs.size := by have := (List.getElem?_eq_some_iff.1 hp).1; omega
    exact ⟨fs[i], by simp [this]⟩
   refine ⟨(.agg (l.map (·.1)), .agg (flat (l.map (·.2))).toArray), by rw [hfl]; rfl, .agg _ _ (by simp) (fun i x v hx hv => ?_), ⟨_, rfl, by simp [hll], fun i f y hf' hy => ?_⟩, by simp [Value.cells, hfl, hl], rfl, rfl⟩
   ·rw [List.getElem?_map] at hx hv
    cases hli : l[i]? with
    | none => rw [hli] at hx; cases hx
    | some p =>
     rw [hli] at hx hv; cases hx; cases hv
     obtain ⟨f, hf'⟩ := hat i p hli
     exact (hq i p hli f hf').1
   ·rw [List.getElem?_map] at hy
    cases hli : l[i]? with
    | none => rw [hli] at hy; cases hy
    | some p => rw [hli] at hy; cases hy; exact (hq i p hli f hf').2.1
  ·cases h
theorem open_any {m : Nat} {t : TypeId} {v : Value} {d : DataW H} {ps : List MemPlace} {r : Reach} {b0 : Nat} (ht : dataTy P m t = true) (hval : Value.okWide P w r b0 t v) (hd : DataW.Trod enc P w base spare held t v d ps) (hw : ∀ n ∈ d.weights P t, n ≤ 140737488351232) : ∃ x, Rep (g0 w) x v ∧ tyAV P m t x := by
 obtain ⟨fuel, hf⟩ := hd
 obtain ⟨p, p1, p2, p3, p4, p5, p6⟩ := trod_rep m t ht fuel _ _ hf hw
 have hv : p.2 = v := by
  unfold Value.okWide at hval
  cases ha : aggT P t with
  | true =>
   have hag : ∃ cs, v = .agg cs := by
    unfold aggT at ha
    split at ha
    ·rename_i h; rw [h] at hval; exact ⟨_, hval.choose_spec.1⟩
    ·rename_i h; rw [h] at hval; exact ⟨_, hval.choose_spec.1⟩
    ·cases ha
   obtain ⟨cs, rfl⟩ := hag
   rw [ha] at p5
   cases hp : p.2 <;> rw [hp] at p5 <;> simp [valAgg] at p5
   rename_i cs'
   rw [hp] at p1
   simp only [Value.cells] at p1
   congr 1
   exact Array.ext' p1
  | false =>
   rw [ha] at p5
   have hna : valAgg v = false := by
    cases v <;> try rfl
    rename_i cs
    exfalso
    obtain ⟨m', rfl⟩ : ∃ k, m = k + 1 := by cases m with
     | zero => simp [dataTy] at ht
     | succ k => exact ⟨k, rfl⟩
    unfold dataTy at ht
    unfold aggT at ha
    split at ht <;> first | (cases ht; done) | (rename_i h; rw [h] at ha hval; simp [Cell.okWide, Cell.ok] at ha hval; done)
   have c1 : ∀ u : Value, valAgg u = false → u.cells = #[u] := fun u hu => by cases u <;> simp_all [valAgg, Value.cells]
   rw [c1 _ p5, c1 _ hna] at p1
   simpa using p1
 subst hv
 exact ⟨p.1, p2, p3⟩
end
end Go.Ab

namespace Go.Ab
open Go.RowKit
theorem list_map_of {α : Type} {R : α → Prop} {f : α → AV} : ∀ {xs : List AV}, (∀ y ∈ xs, ∃ d, R d ∧ y = f d) → ∃ ds : List α, (∀ d ∈ ds, R d) ∧ xs = ds.map f ∧ ds.length = xs.length
 | [], _ => ⟨[], fun d h => (by cases h), rfl, rfl⟩
 | x :: xs, h => by
  obtain ⟨d, h1, h2⟩ := h x (List.mem_cons_self ..)
  obtain ⟨ds, h3, h4, h5⟩ := list_map_of (xs := xs) fun y hy => h y (List.mem_cons_of_mem _ hy)
  refine ⟨d :: ds, fun e he => ?_, by simp [h2, ← h4], by simp [h5]⟩
  rcases List.mem_cons.1 he with rfl | he
  ·exact h1
  ·exact h3 e he
theorem ty_int {P : Program} {m : Nat} {t : TypeId} {k : IntKind} {x : AV} (ht : intTy P t = some k) (h : tyAV P (m + 1) t x) : ∃ n, (Lit.int k n).wf = true ∧ x = .lit (.int k n) := by
 unfold tyAV at h
 rw [intTy_sound ht] at h
 obtain ⟨n, h1, h2⟩ := h
 exact ⟨n, h2, h1⟩
theorem ty_bool {P : Program} {m : Nat} {t : TypeId} {x : AV} (ht : boolTy P t = true) (h : tyAV P (m + 1) t x) : ∃ b, x = .lit (.bool b) := by
 have hb : P.underlying t = some .bool := by
  unfold boolTy at ht
  split at ht
  ·assumption
  ·cases ht
 unfold tyAV at h
 rw [hb] at h
 exact h
theorem ty_str {P : Program} {m : Nat} {t : TypeId} {x : AV} (ht : strTy P t = true) (h : tyAV P (m + 1) t x) : ∃ l : List UInt8, l.length ≤ 9223372036854775807 ∧ x = .lit (.string ⟨l.toArray⟩) := by
 unfold tyAV at h
 rw [strTy_sound ht] at h
 obtain ⟨l, h1, h2⟩ := h
 exact ⟨l, h2, h1⟩
theorem ty_slice {P : Program} {m : Nat} {t e : TypeId} {x : AV} (ht : sliceTy P t = some e) (h : tyAV P (m + 1) t x) : ∃ xs, xs.length ≤ 9223372036854775807 ∧ (∀ y ∈ xs, tyAV P m e y) ∧ x = .slice none xs := by
 unfold tyAV at h
 rw [sliceTy_sound ht] at h
 obtain ⟨xs, h1, h2, h3, _⟩ := h
 exact ⟨xs, h2, h3, h1⟩
theorem ty_sliceW {P : Program} {m : Nat} {t e : TypeId} {x : AV} (ht : sliceTy P t = some e) (h : tyAV P (m + 1) t x) : ∃ xs, xs.length ≤ 9223372036854775807 ∧ (∀ y ∈ xs, tyAV P m e y) ∧ x = .slice none xs ∧ xs.length * P.bytesOf e ≤ 140737488351232 := by
 unfold tyAV at h
 rw [sliceTy_sound ht] at h
 obtain ⟨xs, h1, h2, h3, h4⟩ := h
 exact ⟨xs, h2, h3, h1, h4⟩
theorem ty_byte {P : Program} {m : Nat} {t : TypeId} {x : AV} (ht : byteTy P t = true) (h : tyAV P (m + 1) t x) : ∃ b : UInt8, True ∧ x = byteAV b := by
 have he : P.underlying t = some (.int .u8) := by
  unfold byteTy at ht
  split at ht
  ·assumption
  ·cases ht
 unfold tyAV at h
 rw [he] at h
 obtain ⟨n, rfl, hw⟩ := h
 obtain ⟨b, hb, _⟩ := byte_of_wf hw
 exact ⟨b, trivial, hb⟩
theorem ty_bytesW {P : Program} {m : Nat} {t e : TypeId} {x : AV} (ht : sliceTy P t = some e) (he : byteTy P e = true) (hb : P.bytesOf e = 1) (h : tyAV P (m + 2) t x) : ∃ bs : List UInt8, bs.length ≤ 140737488351232 ∧ x = .slice none (bs.map byteAV) := by
 obtain ⟨xs, h1, h2, rfl, h0⟩ := ty_sliceW ht h
 obtain ⟨bs, _, h3, h4⟩ := list_map_of fun y hy => ty_byte he (h2 y hy)
 rw [hb] at h0
 exact ⟨bs, by omega, by rw [h3]⟩
theorem ty_bytearr {P : Program} {m n size : Nat} {t e : TypeId} {x : AV} (ht : arrInfo P t = some (n, e, size)) (he : byteTy P e = true) (h : tyAV P (m + 2) t x) : ∃ bs : List UInt8, bs.length = n ∧ x = .agg (bs.map byteAV) := by
 unfold tyAV at h
 rw [arrTy_sound (arrInfo_sound ht).1] at h
 obtain ⟨xs, rfl, h1, h2⟩ := h
 obtain ⟨bs, _, h3, h4⟩ := list_map_of fun y hy => ty_byte he (h2 y hy)
 exact ⟨bs, by omega, by rw [h3]⟩
theorem ty_list {P : Program} {α : Type} {R : α → Prop} {f : α → AV} {m : Nat} {t e : TypeId} {x : AV} (ht : sliceTy P t = some e) (he : ∀ y, tyAV P m e y → ∃ d, R d ∧ y = f d) (h : tyAV P (m + 1) t x) : ∃ l : List α, (l.length ≤ 9223372036854775807 ∧ ∀ d ∈ l, R d) ∧ x = .slice none (l.map f) := by
 obtain ⟨xs, h1, h2, rfl⟩ := ty_slice ht h
 obtain ⟨l, h3, h4, h5⟩ := list_map_of fun y hy => he y (h2 y hy)
 exact ⟨l, ⟨by omega, h3⟩, by rw [h4]⟩
theorem ty_struct {P : Program} {m : Nat} {t : TypeId} {fs : Array Field} {x : AV} (ht : P.underlying t = some (.struct fs)) (h : tyAV P (m + 1) t x) : ∃ xs, x = .agg xs ∧ xs.length = fs.size ∧ ∀ (i : Nat) (f : Field) (y : AV), fs[i]? = some f → xs[i]? = some y → tyAV P m f.type y := by
 unfold tyAV at h
 rw [ht] at h
 exact h

theorem ty_tag {P : Program} {m size : Nat} {t e : TypeId} {x : AV} (ht : arrInfo P t = some (32, e, size)) (he : byteTy P e = true) (h : tyAV P (m + 2) t x) : ∃ a : Tg, True ∧ x = tagAV a := by
 obtain ⟨bs, h1, rfl⟩ := ty_bytearr ht he h
 exact ⟨⟨bs, h1⟩, trivial, rfl⟩
end Go.Ab

namespace Go.Proofs.YtdmjpolnbmoehaaGreatDoor
open Go.Ab
@[go_sem] theorem sl65 : sliceTy Tryz.prog 65 = some 50 := by kernel_rfl
@[go_sem] theorem si65 : sliceInfo Tryz.prog 65 = some (50, 2, 16, (.agg [(.lit (.int .i64 0)), (.lit (.int .i64 0))])) := by kernel_rfl
@[go_sem] theorem zt65 : ztree Tryz.prog 65 = some .nils := by kernel_rfl
@[go_sem] theorem tq65 : tyInfo Tryz.prog 65 = some (false, 1) ∧ byteTy Tryz.prog 65 = false ∧ Program.concrete Tryz.prog 65 = true ∧ strTy Tryz.prog 65 = false ∧ nilKind Tryz.prog 65 = 1 := by and_intros <;> kernel_rfl
@[go_sem] theorem sl79 : sliceTy Tryz.prog 79 = some 47 := by kernel_rfl
@[go_sem] theorem si79 : sliceInfo Tryz.prog 79 = some (47, 35, 72, (.agg [(.lit (.int .i64 0)), (.lit (.int .i64 0)), .nils, (.agg ((List.replicate 32 (0 : UInt8)).map byteAV))])) := by kernel_rfl
@[go_sem] theorem zt79 : ztree Tryz.prog 79 = some .nils := by kernel_rfl
@[go_sem] theorem tq79 : tyInfo Tryz.prog 79 = some (false, 1) ∧ byteTy Tryz.prog 79 = false ∧ Program.concrete Tryz.prog 79 = true ∧ strTy Tryz.prog 79 = false ∧ nilKind Tryz.prog 79 = 1 := by and_intros <;> kernel_rfl
end Go.Proofs.YtdmjpolnbmoehaaGreatDoor

namespace Go.Proofs.YtdmjpolnbmoehaaGreatDoor
open Go.Ab
attribute [local irreducible] Go.Ab.tyAV Go.Ab.aw Go.Ab.aops Go.Ab.kReg Go.Ab.aThen Go.Ab.aBlk Go.Ab.acond Go.Ab.aguard Go.Ab.astep Go.Ab.AStepX Go.Ab.aRet
theorem Append_bad (bs : List UInt8) (n : Int) (h : n < 0 ∨ 281474976710656 < n) (k : Nat) : ACall Tryz.prog 158 [.slice none (bs.map byteAV), .lit (.int .i64 n)] k [] (.tup [.nils, .lit (.int .i64 1)]) [] := by
 by_cases h1 : n < 0
 ·refine Bd Tryz.func158 Tryz.ntmps158 fun σ N hp hpn hk hkn hfree => ?_
  exact W0
 ·have h2 : 281474976710656 < n := by omega
  refine Bd Tryz.func158 Tryz.ntmps158 fun σ N hp hpn hk hkn hfree => ?_
  exact W0

theorem SamePredicates_refl (l : List Pr) (hl : l.length ≤ 100000) (k : Nat) :
  ACall Tryz.prog 87 [.slice none (l.map prAV), .slice none (l.map prAV)] k [] (.lit (.bool true)) [] := by
 refine Bd Tryz.func87 Tryz.ntmps87 fun σ N hp hpn hk hkn hfree => ?_
 refine Wk ?_
 refine go_loopF mixed (by kernel_rfl) [4, 5, 11, 12, 13, 14, 15, 16, 17, 18, 19, 20, 21, 22, 23, 24, 25] [] (fun m_ s_ σ_ n_ => ∃ (u : Nat), m_ = l.length - u ∧ s_ 5 = .lit (.int .i64 u) ∧ (u ≤ l.length)) ⟨_, 0, rfl, WF, WC⟩ ?_
 intro m_3 s_3 σ_3 n_3 hs_3 hf_3 hn_3 hI_3
 obtain ⟨u, hm_3, h3_5, hu⟩ := hI_3
 have h3_0 := KS hs_3 0
 have h3_1 := KS hs_3 1
 have hlow := KL (N := N) (σ := σ) hf_3
 by_cases hul : u = l.length
 ·subst hul
  exact W0
 ·have hui : u < l.length := by omega
  obtain ⟨c, hc⟩ : ∃ c, l[u] = c := ⟨_, rfl⟩
  refine Wk ?_
  exact ⟨WS, WG, WN, _, (show l.length - (u + 1) < m_3 by omega), u + 1, rfl, WF, WC⟩

set_option maxHeartbeats 4000000 in
theorem refSame_cav (a b : List Ca) (ha : ∀ c ∈ a, CaSm c) (hb : ∀ c ∈ b, CaSm c) (hal : a.length ≤ 100000) (hbl : b.length ≤ 100000) (k : Nat) :
  ACall Tryz.prog 104 [.slice none (a.map caAV), .slice none (b.map caAV)] k [] (.lit (.bool (decide (a = b)))) [] := by
 by_cases hl : a.length = b.length
 ·refine Bd Tryz.func104 Tryz.ntmps104 fun σ N hp hpn hk hkn hfree => ?_
  refine Wk ?_
  refine go_loopF mixed (by kernel_rfl) (4 :: 5 :: 6 :: 7 :: 13 :: 14 :: 15 :: 16 :: 17 :: 18 :: 19 :: 20 :: 21 :: 22 :: 23 :: 24 :: 25 :: 26 :: 27 :: 28 :: 29 :: 30 :: 31 :: 32 :: 33 :: 34 :: 35 :: 36 :: 37 :: 38 :: 39 :: 40 :: 41 :: 42 :: 43 :: 44 :: 45 :: 46 :: 47 :: 48 :: 49 :: 50 :: 51 :: 52 :: 53 :: 54 :: 55 :: 56 :: 57 :: 58 :: 59 :: 60 :: 61 :: []) [] (fun m_ s_ σ_ n_ => ∃ (u : Nat), m_ = a.length - u ∧ s_ 5 = .lit (.int .i64 u) ∧ (u ≤ a.length) ∧ (a.take u = b.take u)) ⟨_, 0, rfl, WF, WC, WC⟩ ?_
  intro m_1 s_1 σ_1 n_1 hs_1 hf_1 hn_1 hI_1
  obtain ⟨u, hm_1, h1_5, hu, heq⟩ := hI_1
  have h1_0 := KS hs_1 0
  have h1_1 := KS hs_1 1
  have hlow := KL (N := N) (σ := σ) hf_1
  by_cases hul : u = a.length
  ·have : a = b := by
    rw [hul, List.take_length, hl, List.take_length] at heq; exact heq
   rw [decide_eq_true this]
   subst hul
   clear heq this
   exact W0
  ·have hui : u < a.length := by omega
   have hub : u < b.length := by omega
   obtain ⟨x, hx⟩ : ∃ x, a[u] = x := ⟨_, rfl⟩
   obtain ⟨y, hy⟩ : ∃ y, b[u] = y := ⟨_, rfl⟩
   obtain ⟨x1, x2⟩ := ha x (by rw [← hx]; exact List.getElem_mem hui)
   obtain ⟨y1, y2⟩ := hb y (by rw [← hy]; exact List.getElem_mem hub)
   have hne : ¬ x = y → a ≠ b := fun hxy e => hxy (by subst e; rw [← hx, ← hy])
   have heq2 : x = y → a.take (u + 1) = b.take (u + 1) := fun hxy => by
    rw [List.take_add_one, List.take_add_one, List.getElem?_eq_getElem hui, List.getElem?_eq_getElem hub, hx, hy, heq, hxy]
   have c1 := Same_spec x.ticket y.ticket (by omega)
   have c2 := Same_spec x.box y.box (by omega)
   clear heq ha hb
   by_cases h1 : x.third = y.third
   rotate_left
   ·rw [decide_eq_false (hne (fun e => h1 (by rw [e])))]
    have f1 : (x.third == y.third) = false := by simp [h1]
    clear c1 c2 hne heq2
    exact W0
   by_cases h2 : x.first = y.first
   rotate_left
   ·rw [decide_eq_false (hne (fun e => h2 (by rw [e])))]
    have f1 : (x.third == y.third) = true := by simp [h1]
    have f2 : decide (x.first = y.first) = false := decide_eq_false h2
    clear c1 c2 hne heq2
    exact W0
   by_cases h3 : x.party = y.party
   rotate_left
   ·rw [decide_eq_false (hne (fun e => h3 (by rw [e])))]
    have f1 : (x.third == y.third) = true := by simp [h1]
    have f2 : decide (x.first = y.first) = true := decide_eq_true h2
    have f3 : (x.party != y.party) = true := by simp [h3]
    clear c1 c2 hne heq2
    exact W0
   have f1 : (x.third == y.third) = true := by simp [h1]
   have f2 : decide (x.first = y.first) = true := decide_eq_true h2
   have f3 : (x.party != y.party) = false := by simp [h3]
   by_cases h4 : x.ticket = y.ticket
   rotate_left
   ·rw [decide_eq_false h4] at c1
    rw [decide_eq_false (hne (fun e => h4 (by rw [e])))]
    have hcs := And.intro c1 True.intro
    clear c1 c2 hne heq2
    exact W0
   rw [decide_eq_true h4] at c1
   by_cases h5 : x.box = y.box
   rotate_left
   ·rw [decide_eq_false h5] at c2
    rw [decide_eq_false (hne (fun e => h5 (by rw [e])))]
    have hcs := And.intro c1 (And.intro c2 True.intro)
    clear c1 c2 hne heq2
    exact W0
   rw [decide_eq_true h5] at c2
   have hxy : x = y := by
    obtain ⟨p1, p2, p3, p4, p5⟩ := x
    obtain ⟨q1, q2, q3, q4, q5⟩ := y
    simp only at h1 h2 h3 h4 h5
    rw [h1, h2, h3, h4, h5]
   have heq3 := heq2 hxy
   have hcs := And.intro c1 (And.intro c2 True.intro)
   clear c1 c2 hne heq2 hxy
   refine Wk ?_
   exact ⟨WS, WG, WN, _, (show a.length - (u + 1) < m_1 by omega), u + 1, rfl, WF, WC, WC⟩
 ·have hne : a ≠ b := fun e => hl (by rw [e])
  have hlb : ((a.length : Int) != (b.length : Int)) = true := by simp; omega
  rw [decide_eq_false hne]
  refine Bd Tryz.func104 Tryz.ntmps104 fun σ N hp hpn hk hkn hfree => ?_
  exact W0

theorem ACall.addPre {P : Program} {f : FuncId} {args : List AV} {k : Nat} {r : AV} (h : ACall P f args k [] r []) (a : Nat) (E : Ent) (hE : E ≠ .none) : ACall P f args k [(a, E)] r [] :=
 ⟨h.1, fun p hp => by simp at hp; subst hp; exact hE, fun q hq => absurd hq List.not_mem_nil, fun W0 g σ n w vals hS hl hv hk hn _ => h.2.2.2 W0 g σ n w vals hS hl hv hk hn (fun p hp => absurd hp List.not_mem_nil)⟩
def ixF {α : Type} (q : α → Bool) : List α → Nat → Int
 | [], _ => -1
 | e :: r, u => if q e = true then u else ixF q r (u + 1)
theorem ixF_any {α : Type} (q : α → Bool) : ∀ (l : List α) (u : Nat), decide (0 ≤ ixF q l u) = l.any q
 | [], _ => rfl
 | e :: r, u => by
  rw [ixF, List.any_cons]
  cases h : q e with
  | true => simp
  | false => simp only [Bool.false_eq_true, if_false, Bool.false_or]; exact ixF_any q r (u + 1)
theorem ixF_le {α : Type} (q : α → Bool) : ∀ (l : List α) (u : Nat), -1 ≤ ixF q l u
 | [], _ => by simp [ixF]
 | e :: r, u => by
  rw [ixF]
  split
  ·omega
  ·exact ixF_le q r (u + 1)
theorem IxBo_spec (l : List Bo) (q : Bo → Bool) (f : FuncId) (a : Nat) (E : Ent) (hE : E ≠ .none) (hf : ∀ x ∈ l, ∀ k, ACall Tryz.prog f [boAV x] k [(a, E)] (.lit (.bool (q x))) []) (hl : l.length ≤ 9223372036854775807) (k : Nat) :
  ACall Tryz.prog 204 [.slice none (l.map boAV), .fn f []] k [(a, E)] (.lit (.int .i64 (ixF q l 0))) [] := by
 obtain ⟨R, hR⟩ : ∃ R, ixF q l 0 = R := ⟨_, rfl⟩
 rw [hR]
 have hdr : l.drop 0 = l := rfl
 refine Bd (hpre := by simp [hE]) Tryz.func204 Tryz.ntmps204 fun σ N hp hpn hk hkn hfree => ?_
 obtain ⟨hd, hdn⟩ := HD0 hp hpn; clear hp hpn
 refine Wk ?_
 refine go_loopF mixed (by kernel_rfl) [4, 5, 8, 9, 10, 11, 12, 13, 14, 15, 16, 17, 18] [] (fun m_ s_ σ_ n_ => ∃ (u : Nat), m_ = l.length - u ∧ s_ 8 = .lit (.int .i64 u) ∧ (u ≤ l.length) ∧ (ixF q (l.drop u) u = R)) ⟨_, 0, rfl, WF, WC, WC⟩ ?_
 intro m_1 s_1 σ_1 n_1 hs_1 hf_1 hn_1 hI_1
 obtain ⟨u, hm_1, h1_8, hu, hno⟩ := hI_1
 have h1_0 := KS hs_1 0
 have h1_1 := KS hs_1 1
 have h1_7 := KS hs_1 7
 have k1_0 := KE hf_1 (a)
 have hlow := KL (N := N) (σ := σ) hf_1
 clear hR hdr
 by_cases hul : u = l.length
 ·subst hul
  rw [List.drop_length] at hno
  simp only [ixF] at hno
  subst hno
  clear hf
  exact W0
 ·have hu1 : u < l.length := by omega
  rw [List.drop_eq_getElem_cons hu1, ixF] at hno
  have c1 := hf _ (List.getElem_mem hu1)
  obtain ⟨z, hz⟩ : ∃ z, l[u] = z := ⟨_, rfl⟩
  rw [hz] at hno c1
  cases hc : q z with
  | true =>
   rw [if_pos hc] at hno
   subst hno
   rw [hc] at c1
   have hcs := And.intro c1 True.intro
   clear c1 hf hc
   exact W0
  | false =>
   rw [if_neg (by rw [hc]; simp)] at hno
   rw [hc] at c1
   have hcs := And.intro c1 True.intro
   clear c1 hf hc
   refine Wk ?_
   exact ⟨WS, WG, WN, _, (show l.length - (u + 1) < m_1 by omega), u + 1, rfl, WF, WC, WC⟩
theorem HasBo_spec (l : List Bo) (q : Bo → Bool) (f : FuncId) (a : Nat) (E : Ent) (hE : E ≠ .none) (hf : ∀ x ∈ l, ∀ k, ACall Tryz.prog f [boAV x] k [(a, E)] (.lit (.bool (q x))) []) (hl : l.length ≤ 9223372036854775807) (k : Nat) :
  ACall Tryz.prog 170 [.slice none (l.map boAV), .fn f []] k [(a, E)] (.lit (.bool (l.any q))) [] := by
 have c1 := IxBo_spec l q f a E hE hf hl
 have h1 := ixF_any q l 0
 have h2 := ixF_le q l 0
 rw [← h1]
 generalize ixF q l 0 = R at *
 clear h1 hf
 refine Bd (hpre := by simp [hE]) Tryz.func170 Tryz.ntmps170 fun σ N hp hpn hk hkn hfree => ?_
 obtain ⟨hd, hdn⟩ := HD0 hp hpn; clear hp hpn
 have hcs := And.intro c1 True.intro
 clear c1
 exact W0
theorem IxBo1_spec (l : List Bo) (q : Bo → Bool) (f : FuncId) (a : Nat) (E : Ent) (hE : E ≠ .none) (hf : ∀ x ∈ l, ∀ k, ACall Tryz.prog f [boAV x, .ptr a [] 0] k [(a, E)] (.lit (.bool (q x))) []) (hl : l.length ≤ 9223372036854775807) (k : Nat) :
  ACall Tryz.prog 204 [.slice none (l.map boAV), .fn f [.ptr a [] 0]] k [(a, E)] (.lit (.int .i64 (ixF q l 0))) [] := by
 obtain ⟨R, hR⟩ : ∃ R, ixF q l 0 = R := ⟨_, rfl⟩
 rw [hR]
 have hdr : l.drop 0 = l := rfl
 refine Bd (hpre := by simp [hE]) Tryz.func204 Tryz.ntmps204 fun σ N hp hpn hk hkn hfree => ?_
 obtain ⟨hd, hdn⟩ := HD0 hp hpn; clear hp hpn
 refine Wk ?_
 refine go_loopF mixed (by kernel_rfl) [4, 5, 8, 9, 10, 11, 12, 13, 14, 15, 16, 17, 18] [] (fun m_ s_ σ_ n_ => ∃ (u : Nat), m_ = l.length - u ∧ s_ 8 = .lit (.int .i64 u) ∧ (u ≤ l.length) ∧ (ixF q (l.drop u) u = R)) ⟨_, 0, rfl, WF, WC, WC⟩ ?_
 intro m_2 s_2 σ_2 n_2 hs_2 hf_2 hn_2 hI_2
 obtain ⟨u, hm_2, h2_8, hu, hno⟩ := hI_2
 have h2_0 := KS hs_2 0
 have h2_1 := KS hs_2 1
 have h2_7 := KS hs_2 7
 have k2_0 := KE hf_2 (a)
 have hlow := KL (N := N) (σ := σ) hf_2
 clear hR hdr
 by_cases hul : u = l.length
 ·subst hul
  rw [List.drop_length] at hno
  simp only [ixF] at hno
  subst hno
  clear hf
  exact W0
 ·have hu1 : u < l.length := by omega
  rw [List.drop_eq_getElem_cons hu1, ixF] at hno
  have c1 := hf _ (List.getElem_mem hu1)
  obtain ⟨z, hz⟩ : ∃ z, l[u] = z := ⟨_, rfl⟩
  rw [hz] at hno c1
  cases hc : q z with
  | true =>
   rw [if_pos hc] at hno
   subst hno
   rw [hc] at c1
   have hcs := And.intro c1 True.intro
   clear c1 hf hc
   exact W0
  | false =>
   rw [if_neg (by rw [hc]; simp)] at hno
   rw [hc] at c1
   have hcs := And.intro c1 True.intro
   clear c1 hf hc
   refine Wk ?_
   exact ⟨WS, WG, WN, _, (show l.length - (u + 1) < m_2 by omega), u + 1, rfl, WF, WC, WC⟩
theorem HasBo1_spec (l : List Bo) (q : Bo → Bool) (f : FuncId) (a : Nat) (E : Ent) (hE : E ≠ .none) (hf : ∀ x ∈ l, ∀ k, ACall Tryz.prog f [boAV x, .ptr a [] 0] k [(a, E)] (.lit (.bool (q x))) []) (hl : l.length ≤ 9223372036854775807) (k : Nat) :
  ACall Tryz.prog 170 [.slice none (l.map boAV), .fn f [.ptr a [] 0]] k [(a, E)] (.lit (.bool (l.any q))) [] := by
 have c1 := IxBo1_spec l q f a E hE hf hl
 have h1 := ixF_any q l 0
 have h2 := ixF_le q l 0
 rw [← h1]
 generalize ixF q l 0 = R at *
 clear h1 hf
 refine Bd (hpre := by simp [hE]) Tryz.func170 Tryz.ntmps170 fun σ N hp hpn hk hkn hfree => ?_
 obtain ⟨hd, hdn⟩ := HD0 hp hpn; clear hp hpn
 have hcs := And.intro c1 True.intro
 clear c1
 exact W0
theorem IxPr_spec (l : List Pr) (q : Pr → Bool) (f : FuncId) (a : Nat) (E : Ent) (hE : E ≠ .none) (hf : ∀ x ∈ l, ∀ k, ACall Tryz.prog f [prAV x] k [(a, E)] (.lit (.bool (q x))) []) (hl : l.length ≤ 9223372036854775807) (k : Nat) :
  ACall Tryz.prog 222 [.slice none (l.map prAV), .fn f []] k [(a, E)] (.lit (.int .i64 (ixF q l 0))) [] := by
 obtain ⟨R, hR⟩ : ∃ R, ixF q l 0 = R := ⟨_, rfl⟩
 rw [hR]
 have hdr : l.drop 0 = l := rfl
 refine Bd (hpre := by simp [hE]) Tryz.func222 Tryz.ntmps222 fun σ N hp hpn hk hkn hfree => ?_
 obtain ⟨hd, hdn⟩ := HD0 hp hpn; clear hp hpn
 refine Wk ?_
 refine go_loopF mixed (by kernel_rfl) [4, 5, 8, 9, 10, 11, 12, 13, 14, 15, 16, 17, 18] [] (fun m_ s_ σ_ n_ => ∃ (u : Nat), m_ = l.length - u ∧ s_ 8 = .lit (.int .i64 u) ∧ (u ≤ l.length) ∧ (ixF q (l.drop u) u = R)) ⟨_, 0, rfl, WF, WC, WC⟩ ?_
 intro m_3 s_3 σ_3 n_3 hs_3 hf_3 hn_3 hI_3
 obtain ⟨u, hm_3, h3_8, hu, hno⟩ := hI_3
 have h3_0 := KS hs_3 0
 have h3_1 := KS hs_3 1
 have h3_7 := KS hs_3 7
 have k3_0 := KE hf_3 (a)
 have hlow := KL (N := N) (σ := σ) hf_3
 clear hR hdr
 by_cases hul : u = l.length
 ·subst hul
  rw [List.drop_length] at hno
  simp only [ixF] at hno
  subst hno
  clear hf
  exact W0
 ·have hu1 : u < l.length := by omega
  rw [List.drop_eq_getElem_cons hu1, ixF] at hno
  have c1 := hf _ (List.getElem_mem hu1)
  obtain ⟨z, hz⟩ : ∃ z, l[u] = z := ⟨_, rfl⟩
  rw [hz] at hno c1
  cases hc : q z with
  | true =>
   rw [if_pos hc] at hno
   subst hno
   rw [hc] at c1
   have hcs := And.intro c1 True.intro
   clear c1 hf hc
   exact W0
  | false =>
   rw [if_neg (by rw [hc]; simp)] at hno
   rw [hc] at c1
   have hcs := And.intro c1 True.intro
   clear c1 hf hc
   refine Wk ?_
   exact ⟨WS, WG, WN, _, (show l.length - (u + 1) < m_3 by omega), u + 1, rfl, WF, WC, WC⟩
theorem HasPr_spec (l : List Pr) (q : Pr → Bool) (f : FuncId) (a : Nat) (E : Ent) (hE : E ≠ .none) (hf : ∀ x ∈ l, ∀ k, ACall Tryz.prog f [prAV x] k [(a, E)] (.lit (.bool (q x))) []) (hl : l.length ≤ 9223372036854775807) (k : Nat) :
  ACall Tryz.prog 205 [.slice none (l.map prAV), .fn f []] k [(a, E)] (.lit (.bool (l.any q))) [] := by
 have c1 := IxPr_spec l q f a E hE hf hl
 have h1 := ixF_any q l 0
 have h2 := ixF_le q l 0
 rw [← h1]
 generalize ixF q l 0 = R at *
 clear h1 hf
 refine Bd (hpre := by simp [hE]) Tryz.func205 Tryz.ntmps205 fun σ N hp hpn hk hkn hfree => ?_
 obtain ⟨hd, hdn⟩ := HD0 hp hpn; clear hp hpn
 have hcs := And.intro c1 True.intro
 clear c1
 exact W0
theorem IxCa_spec (l : List Ca) (q : Ca → Bool) (f : FuncId) (a : Nat) (E : Ent) (hE : E ≠ .none) (hf : ∀ x ∈ l, ∀ k, ACall Tryz.prog f [caAV x] k [(a, E)] (.lit (.bool (q x))) []) (hl : l.length ≤ 9223372036854775807) (k : Nat) :
  ACall Tryz.prog 203 [.slice none (l.map caAV), .fn f []] k [(a, E)] (.lit (.int .i64 (ixF q l 0))) [] := by
 obtain ⟨R, hR⟩ : ∃ R, ixF q l 0 = R := ⟨_, rfl⟩
 rw [hR]
 have hdr : l.drop 0 = l := rfl
 refine Bd (hpre := by simp [hE]) Tryz.func203 Tryz.ntmps203 fun σ N hp hpn hk hkn hfree => ?_
 obtain ⟨hd, hdn⟩ := HD0 hp hpn; clear hp hpn
 refine Wk ?_
 refine go_loopF mixed (by kernel_rfl) [4, 5, 8, 9, 10, 11, 12, 13, 14, 15, 16, 17, 18] [] (fun m_ s_ σ_ n_ => ∃ (u : Nat), m_ = l.length - u ∧ s_ 8 = .lit (.int .i64 u) ∧ (u ≤ l.length) ∧ (ixF q (l.drop u) u = R)) ⟨_, 0, rfl, WF, WC, WC⟩ ?_
 intro m_4 s_4 σ_4 n_4 hs_4 hf_4 hn_4 hI_4
 obtain ⟨u, hm_4, h4_8, hu, hno⟩ := hI_4
 have h4_0 := KS hs_4 0
 have h4_1 := KS hs_4 1
 have h4_7 := KS hs_4 7
 have k4_0 := KE hf_4 (a)
 have hlow := KL (N := N) (σ := σ) hf_4
 clear hR hdr
 by_cases hul : u = l.length
 ·subst hul
  rw [List.drop_length] at hno
  simp only [ixF] at hno
  subst hno
  clear hf
  exact W0
 ·have hu1 : u < l.length := by omega
  rw [List.drop_eq_getElem_cons hu1, ixF] at hno
  have c1 := hf _ (List.getElem_mem hu1)
  obtain ⟨z, hz⟩ : ∃ z, l[u] = z := ⟨_, rfl⟩
  rw [hz] at hno c1
  cases hc : q z with
  | true =>
   rw [if_pos hc] at hno
   subst hno
   rw [hc] at c1
   have hcs := And.intro c1 True.intro
   clear c1 hf hc
   exact W0
  | false =>
   rw [if_neg (by rw [hc]; simp)] at hno
   rw [hc] at c1
   have hcs := And.intro c1 True.intro
   clear c1 hf hc
   refine Wk ?_
   exact ⟨WS, WG, WN, _, (show l.length - (u + 1) < m_4 by omega), u + 1, rfl, WF, WC, WC⟩
theorem HasCa_spec (l : List Ca) (q : Ca → Bool) (f : FuncId) (a : Nat) (E : Ent) (hE : E ≠ .none) (hf : ∀ x ∈ l, ∀ k, ACall Tryz.prog f [caAV x] k [(a, E)] (.lit (.bool (q x))) []) (hl : l.length ≤ 9223372036854775807) (k : Nat) :
  ACall Tryz.prog 168 [.slice none (l.map caAV), .fn f []] k [(a, E)] (.lit (.bool (l.any q))) [] := by
 have c1 := IxCa_spec l q f a E hE hf hl
 have h1 := ixF_any q l 0
 have h2 := ixF_le q l 0
 rw [← h1]
 generalize ixF q l 0 = R at *
 clear h1 hf
 refine Bd (hpre := by simp [hE]) Tryz.func168 Tryz.ntmps168 fun σ N hp hpn hk hkn hfree => ?_
 obtain ⟨hd, hdn⟩ := HD0 hp hpn; clear hp hpn
 have hcs := And.intro c1 True.intro
 clear c1
 exact W0

theorem Req_spec (r : Rq) (k : Nat) : ACall Tryz.prog 92 [rqAV r] k [] (.lit (.bool (rqB r))) [] := by
 obtain ⟨x, y⟩ := r
 unfold rqAV
 by_cases h1 : 0 ≤ x
 ·by_cases h2 : x < 8
  ·by_cases h3 : 1 ≤ y
   ·by_cases h4 : y ≤ 281474976710656
    ·have hr : rqB ⟨x, y⟩ = true := by simp [rqB, *]
     rw [hr]
     refine Bd Tryz.func92 Tryz.ntmps92 fun σ N hp hpn hk hkn hfree => ?_
     exact W0
    ·have hr : rqB ⟨x, y⟩ = false := by simp [rqB, *]
     rw [hr]
     refine Bd Tryz.func92 Tryz.ntmps92 fun σ N hp hpn hk hkn hfree => ?_
     exact W0
   ·have hr : rqB ⟨x, y⟩ = false := by simp [rqB, *]
    rw [hr]
    refine Bd Tryz.func92 Tryz.ntmps92 fun σ N hp hpn hk hkn hfree => ?_
    exact W0
  ·have hr : rqB ⟨x, y⟩ = false := by simp [rqB, *]
   rw [hr]
   refine Bd Tryz.func92 Tryz.ntmps92 fun σ N hp hpn hk hkn hfree => ?_
   exact W0
 ·have hr : rqB ⟨x, y⟩ = false := by simp [rqB, *]
  rw [hr]
  refine Bd Tryz.func92 Tryz.ntmps92 fun σ N hp hpn hk hkn hfree => ?_
  exact W0
def longB (d : Bo) : Bool := decide (8 < d.conds.length)
def badBo (d : Bo) : Bool := decide (d.ticket.length < 1) || decide (1024 < d.ticket.length) || d.conds.any fun p => !predB p
def ridB (d : Bo) : Bool := d.conds.any fun p => decide (p.kind = 7)
structure BoIn (d : Bo) : Prop where
 tl : d.ticket.length ≤ 9223372036854775807
 cl : d.conds.length ≤ 9223372036854775807
 ok : ∀ p ∈ d.conds, PrOk p
structure BuIn (b : Bu) : Prop where
 cl : b.cavs.length ≤ 1000
 dl : b.dis.length ≤ 1000
 ok : ∀ c ∈ b.cavs, PrOk c.first
 di : ∀ d ∈ b.dis, BoIn d
theorem counts1_spec (x : Bo) (k : Nat) : ACall Tryz.prog 202 [boAV x] k [] (.lit (.bool (longB x))) [] := by
 obtain ⟨ti, L, pf⟩ := x
 unfold longB boAV
 simp only
 by_cases h : 8 < L.length
 ·have hi : (8 : Int) < (L.length : Int) := by omega
  rw [decide_eq_true h]
  refine Bd Tryz.func202 Tryz.ntmps202 fun σ N hp hpn hk hkn hfree => ?_
  exact W0
 ·have hi : ¬ (8 : Int) < (L.length : Int) := by omega
  rw [decide_eq_false h]
  refine Bd Tryz.func202 Tryz.ntmps202 fun σ N hp hpn hk hkn hfree => ?_
  exact W0
theorem malf1_spec (p : Pr) (hp : PrOk p) (d k : Nat) : ACall Tryz.prog 206 [prAV p] k [(d, bitsG)] (.lit (.bool (!predB p))) [] := by
 have c1 := predValid_spec p hp d
 generalize predB p = q at *
 refine Bd Tryz.func206 Tryz.ntmps206 fun σ N hp hpn hk hkn hfree => ?_
 obtain ⟨hd, hdn⟩ := HD0 hp hpn; clear hp hpn
 have hcs := And.intro c1 True.intro
 clear c1
 exact W0
theorem rides1_spec (p : Pr) (k : Nat) : ACall Tryz.prog 207 [prAV p] k [] (.lit (.bool (decide (p.kind = 7)))) [] := by
 obtain ⟨kd, ms, fr, to, nm, nu⟩ := p
 unfold prAV
 simp only
 by_cases h : kd = 7
 ·subst h
  rw [decide_eq_true rfl]
  refine Bd Tryz.func207 Tryz.ntmps207 fun σ N hp hpn hk hkn hfree => ?_
  exact W0
 ·have hb : (kd == 7) = false := by rw [beq_eq_false_iff_ne]; exact h
  rw [decide_eq_false h]
  refine Bd Tryz.func207 Tryz.ntmps207 fun σ N hp hpn hk hkn hfree => ?_
  exact W0
theorem parts1_spec (c : Ca) (hp : PrOk c.first) (d k : Nat) : ACall Tryz.prog 169 [caAV c] k [(d, bitsG)] (.lit (.bool (!cavB c))) [] := by
 have c1 := cavValid_spec c hp d
 generalize cavB c = q at *
 refine Bd Tryz.func169 Tryz.ntmps169 fun σ N hp hpn hk hkn hfree => ?_
 obtain ⟨hd, hdn⟩ := HD0 hp hpn; clear hp hpn
 have hcs := And.intro c1 True.intro
 clear c1
 exact W0
theorem twice1_spec (x z : Bo) (hx : x.ticket.length ≤ 1024) (hz : z.ticket.length ≤ 1024) (a k : Nat) : ACall Tryz.prog 208 [boAV x, .ptr a [] 0] k [(a, .box 67 (boAV z))] (.lit (.bool (decide (x.ticket = z.ticket)))) [] := by
 obtain ⟨xt, xc, xp⟩ := x
 obtain ⟨zt, zc, zp⟩ := z
 unfold boAV
 simp only at hx hz ⊢
 have c1 := Equal_spec xt zt (by omega) (by omega)
 generalize decide (xt = zt) = q at *
 refine Bd Tryz.func208 Tryz.ntmps208 fun σ N hp hpn hk hkn hfree => ?_
 obtain ⟨hd, hdn⟩ := HD0 hp hpn; clear hp hpn
 have hcs := And.intro c1 True.intro
 clear c1
 exact W0
theorem malf_spec (x : Bo) (hx : BoIn x) (d k : Nat) : ACall Tryz.prog 171 [boAV x] k [(d, bitsG)] (.lit (.bool (badBo x))) [] := by
 have c1 := HasPr_spec x.conds (fun p => !predB p) 206 d bitsG (by simp) (fun p hp k => malf1_spec p (hx.ok p hp) d k) hx.cl
 obtain ⟨ti, L, pf⟩ := x
 unfold badBo boAV
 simp only at c1 ⊢
 clear hx
 generalize (L.any fun p => !predB p) = q at *
 by_cases h1 : ti.length < 1
 ·rw [decide_eq_true h1]
  have h1i : (ti.length : Int) < 1 := by omega
  simp only [Bool.true_or]
  clear c1
  refine Bd Tryz.func171 Tryz.ntmps171 fun σ N hp hpn hk hkn hfree => ?_
  obtain ⟨hd, hdn⟩ := HD0 hp hpn; clear hp hpn
  exact W0
 ·have h1i : ¬ (ti.length : Int) < 1 := by omega
  rw [decide_eq_false h1]
  by_cases h2 : 1024 < ti.length
  ·rw [decide_eq_true h2]
   have h2i : (1024 : Int) < (ti.length : Int) := by omega
   simp only [Bool.true_or, Bool.or_true]
   clear c1
   refine Bd Tryz.func171 Tryz.ntmps171 fun σ N hp hpn hk hkn hfree => ?_
   obtain ⟨hd, hdn⟩ := HD0 hp hpn; clear hp hpn
   exact W0
  ·have h2i : ¬ (1024 : Int) < (ti.length : Int) := by omega
   rw [decide_eq_false h2]
   simp only [Bool.false_or]
   refine Bd Tryz.func171 Tryz.ntmps171 fun σ N hp hpn hk hkn hfree => ?_
   obtain ⟨hd, hdn⟩ := HD0 hp hpn; clear hp hpn
   have hcs := And.intro c1 True.intro
   clear c1
   exact W0
theorem rides_spec (x : Bo) (hx : BoIn x) (a : Nat) (E : Ent) (hE : E ≠ .none) (k : Nat) : ACall Tryz.prog 172 [boAV x] k [(a, E)] (.lit (.bool (ridB x))) [] := by
 have c1 := HasPr_spec x.conds (fun p => decide (p.kind = 7)) 207 a E hE (fun p hp k => ACall.addPre (rides1_spec p k) a E hE) hx.cl
 obtain ⟨ti, L, pf⟩ := x
 unfold ridB boAV
 simp only at c1 ⊢
 clear hx
 generalize (L.any fun p => decide (p.kind = 7)) = q at *
 refine Bd (hpre := by simp [hE]) Tryz.func172 Tryz.ntmps172 fun σ N hp hpn hk hkn hfree => ?_
 obtain ⟨hd, hdn⟩ := HD0 hp hpn; clear hp hpn
 have hcs := And.intro c1 True.intro
 clear c1
 exact W0
def twU (l : List Bo) (u : Nat) : Bool := (List.range u).any fun i => (l.take i).any fun x => decide (x.ticket = (l.getD i bo0).ticket)
theorem twU_succ (l : List Bo) (u : Nat) : twU l (u + 1) = (twU l u || (l.take u).any fun x => decide (x.ticket = (l.getD u bo0).ticket)) := by
 unfold twU; rw [List.range_succ, List.any_append]; simp
theorem twU_le (l : List Bo) {u n : Nat} (h : u ≤ n) (ht : twU l u = true) : twU l n = true := by
 obtain ⟨m, rfl⟩ := Nat.exists_eq_add_of_le h
 clear h
 induction m with
 | zero => exact ht
 | succ m ih => rw [← Nat.add_assoc, twU_succ, ih]; rfl
theorem twice_spec (l : List Bo) (hl : l.length ≤ 1000) (ht : ∀ x ∈ l, x.ticket.length ≤ 1024) (k : Nat) : ACall Tryz.prog 173 [.slice none (l.map boAV)] k [] (.lit (.bool (twU l l.length))) [] := by
 obtain ⟨R, hR⟩ : ∃ R, twU l l.length = R := ⟨_, rfl⟩
 rw [hR]
 have h0 : twU l 0 = false := rfl
 refine Bd Tryz.func173 Tryz.ntmps173 fun σ N hp hpn hk hkn hfree => ?_
 refine Wk ?_
 refine go_loopF mixed (by kernel_rfl) [2, 3, 4, 7, 8, 9, 10, 11, 12, 13, 14, 15, 16, 17] [] (fun m_ s_ σ_ n_ => ∃ (u : Nat), m_ = l.length - u ∧ s_ 7 = .lit (.int .i64 u) ∧ (u ≤ l.length) ∧ (twU l u = false)) ⟨_, 0, rfl, WF, WC, WC⟩ ?_
 intro m_1 s_1 σ_1 n_1 hs_1 hf_1 hn_1 hI_1
 obtain ⟨u, hm_1, h1_7, hu, htw⟩ := hI_1
 have h1_0 := KS hs_1 0
 have h1_5 := KS hs_1 5
 have h1_6 := KS hs_1 6
 have hlow := KL (N := N) (σ := σ) hf_1
 clear h0
 by_cases hul : u = l.length
 ·subst hul
  rw [hR] at htw
  subst htw
  clear hR ht
  exact W0
 ·have hu1 : u < l.length := by omega
  have hs := twU_succ l u
  rw [htw, Bool.false_or, List.getD_eq_getElem?_getD, List.getElem?_eq_getElem hu1, Option.getD_some] at hs
  have hz1 := ht _ (List.getElem_mem hu1)
  obtain ⟨z, hz⟩ : ∃ z, l[u] = z := ⟨_, rfl⟩
  rw [hz] at hs hz1
  have c1 := HasBo1_spec (l.take u) (fun x => decide (x.ticket = z.ticket)) 208 (n_1 + 1 + 3) (.box 67 (boAV z)) (by simp) (fun x hx k => twice1_spec x z (ht x (List.mem_of_mem_take hx)) hz1 _ k) (by rw [List.length_take]; omega)
  have hta : (l.map boAV).take u = (l.take u).map boAV := by rw [List.map_take]
  generalize l.take u = T at *
  cases hc : twU l (u + 1) with
  | true =>
   have hR1 := twU_le l (show u + 1 ≤ l.length by omega) hc
   rw [hR] at hR1
   subst hR1
   rw [← hs, hc] at c1
   have hcs := And.intro c1 True.intro
   clear c1 ht hR htw hs
   exact W0
  | false =>
   rw [← hs, hc] at c1
   have hcs := And.intro c1 True.intro
   clear c1 ht hR htw hs
   refine Wk ?_
   exact ⟨WS, WG, WN, _, (show l.length - (u + 1) < m_1 by omega), u + 1, rfl, WF, WC, WC⟩
def cntB (b : Bu) : Bool := decide (64 < b.cavs.length) || (decide (8 < thirdsS b.cavs) || (decide (8 < b.dis.length) || b.dis.any longB))
theorem counts_spec (b : Bu) (hb : BuIn b) (a : Nat) (E : Ent) (hE : E ≠ .none) (k : Nat) : ACall Tryz.prog 167 [buAV b] k [(a, E)] (.lit (.bool (cntB b))) [] := by
 have c1 := firsts_gen b.cavs _ rfl (by have := hb.cl; omega)
 have h1 := firsts_len b.cavs
 have c2 := HasBo_spec b.dis longB 202 a E hE (fun x _ k => ACall.addPre (counts1_spec x k) a E hE) (by have := hb.dl; omega)
 have hcl := hb.cl
 have hdl := hb.dl
 clear hb
 obtain ⟨rq, ep, se, L, pf, ds⟩ := b
 unfold cntB buAV thirdsS
 simp only at c1 c2 h1 hcl hdl ⊢
 generalize firstsS L = F at *
 generalize ds.any longB = q at *
 by_cases g1 : 64 < L.length
 ·have g1i : (64 : Int) < (L.length : Int) := by omega
  rw [decide_eq_true g1]
  simp only [Bool.true_or]
  clear c2
  refine Bd (hpre := by simp [hE]) Tryz.func167 Tryz.ntmps167 fun σ N hp hpn hk hkn hfree => ?_
  obtain ⟨hd, hdn⟩ := HD0 hp hpn; clear hp hpn
  have hcs := And.intro c1 True.intro
  clear c1
  exact W0
 have g1i : ¬ (64 : Int) < (L.length : Int) := by omega
 rw [decide_eq_false g1]
 by_cases g2 : 8 < L.length - F.length
 ·have g2i : (8 : Int) < (L.length : Int) - (F.length : Int) := by omega
  rw [decide_eq_true g2]
  simp only [Bool.true_or, Bool.false_or]
  clear c2
  refine Bd (hpre := by simp [hE]) Tryz.func167 Tryz.ntmps167 fun σ N hp hpn hk hkn hfree => ?_
  obtain ⟨hd, hdn⟩ := HD0 hp hpn; clear hp hpn
  have hcs := And.intro c1 True.intro
  clear c1
  exact W0
 have g2i : ¬ (8 : Int) < (L.length : Int) - (F.length : Int) := by omega
 rw [decide_eq_false g2]
 by_cases g3 : 8 < ds.length
 ·have g3i : (8 : Int) < (ds.length : Int) := by omega
  rw [decide_eq_true g3]
  simp only [Bool.true_or, Bool.false_or]
  clear c2
  refine Bd (hpre := by simp [hE]) Tryz.func167 Tryz.ntmps167 fun σ N hp hpn hk hkn hfree => ?_
  obtain ⟨hd, hdn⟩ := HD0 hp hpn; clear hp hpn
  have hcs := And.intro c1 True.intro
  clear c1
  exact W0
 have g3i : ¬ (8 : Int) < (ds.length : Int) := by omega
 rw [decide_eq_false g3]
 simp only [Bool.false_or]
 refine Bd (hpre := by simp [hE]) Tryz.func167 Tryz.ntmps167 fun σ N hp hpn hk hkn hfree => ?_
 obtain ⟨hd, hdn⟩ := HD0 hp hpn; clear hp hpn
 have hcs := And.intro c1 (And.intro c2 True.intro)
 clear c1 c2
 exact W0

def rngB (b : Bu) : Bool := !rqB b.req || (decide (b.epoch < 1) || (decide (1000 < b.epoch) || (decide (b.serial < 1) || decide (1073741824 < b.serial))))
def partsS (b : Bu) : Nat := if rngB b = true then 1 else if cntB b = true then 2 else if b.cavs.any (fun c => !cavB c) = true ∨ b.dis.any badBo = true then 5 else if b.dis.any ridB = true then 6 else if twU b.dis b.dis.length = true then 10 else 0
theorem any_false {α : Type} {l : List α} {q : α → Bool} (h : l.any q = false) : ∀ x ∈ l, q x = false := fun x hx => by
 cases hq : q x with
 | false => rfl
 | true => rw [List.any_eq_true.2 ⟨x, hx, hq⟩] at h; cases h
theorem badBo_false {d : Bo} (h : badBo d = false) : 1 ≤ d.ticket.length ∧ d.ticket.length ≤ 1024 ∧ ∀ p ∈ d.conds, predB p = true := by
 unfold badBo at h
 simp only [Bool.or_eq_false_iff, decide_eq_false_iff_not] at h
 obtain ⟨⟨h1, h2⟩, h3⟩ := h
 exact ⟨by omega, by omega, fun p hp => by simpa using any_false h3 p hp⟩
theorem parts_valid {b : Bu} (hb : BuIn b) (h : partsS b = 0) : BuV b := by
 unfold partsS at h
 split at h
 ·cases h
 rename_i h1
 split at h
 ·cases h
 rename_i h2
 split at h
 ·cases h
 rename_i h3
 simp only [Bool.not_eq_true] at h1 h2
 unfold rngB at h1
 simp only [Bool.or_eq_false_iff, decide_eq_false_iff_not, Bool.not_eq_false'] at h1
 unfold cntB at h2
 simp only [Bool.or_eq_false_iff, decide_eq_false_iff_not] at h2
 simp only [not_or, Bool.not_eq_true] at h3
 obtain ⟨a1, a2, a3, a4, a5⟩ := h1
 obtain ⟨b1, b2, b3, b4⟩ := h2
 refine ⟨a1, by omega, by omega, by omega, by omega, by omega, fun c hc => ⟨by simpa using any_false h3.1 c hc, hb.ok c hc⟩, by omega, fun d hd => ?_⟩
 obtain ⟨c1, c2, c3⟩ := badBo_false (any_false h3.2 d hd)
 have c4 := any_false b4 d hd
 unfold longB at c4
 exact ⟨c1, c2, by simpa using c4, fun p hp => ⟨c3 p hp, (hb.di d hd).ok p hp⟩⟩
set_option maxHeartbeats 1000000 in
theorem parts_spec (b : Bu) (hb : BuIn b) (d k : Nat) : ACall Tryz.prog 113 [buAV b] k [(d, bitsG)] (.lit (.int .i64 (partsS b : Nat))) [] := by
 have c1 := Req_spec b.req
 have c2 := counts_spec b hb d bitsG (by simp)
 have c3 := HasCa_spec b.cavs (fun c => !cavB c) 169 d bitsG (by simp) (fun x hx k => parts1_spec x (hb.ok x hx) d k) (by have := hb.cl; omega)
 have c4 := HasBo_spec b.dis badBo 171 d bitsG (by simp) (fun x hx k => malf_spec x (hb.di x hx) d k) (by have := hb.dl; omega)
 have c5 := HasBo_spec b.dis ridB 172 d bitsG (by simp) (fun x hx k => rides_spec x (hb.di x hx) d bitsG (by simp) k) (by have := hb.dl; omega)
 have c6 : b.dis.any badBo = false → ∀ k, ACall Tryz.prog 173 [.slice none (b.dis.map boAV)] k [] (.lit (.bool (twU b.dis b.dis.length))) [] := fun h k => twice_spec b.dis hb.dl (fun x hx => (badBo_false (any_false h x hx)).2.1) k
 clear hb
 unfold partsS rngB
 generalize cntB b = vc at *
 obtain ⟨rq, ep, se, L, pf, ds⟩ := b
 have hbA : buAV ⟨rq, ep, se, L, pf, ds⟩ = .agg [rqAV rq, .lit (.int .i64 ep), .lit (.int .i64 se), .slice none (L.map caAV), tagAV pf, .slice none (ds.map boAV)] := rfl
 simp only at c1 c2 c3 c4 c5 c6 ⊢
 generalize ds.any badBo = vb at *
 generalize ds.any ridB = vr at *
 generalize twU ds ds.length = vt at *
 generalize (L.any fun c => !cavB c) = vl at *
 cases hr : rqB rq with
 | false =>
  rw [hr] at c1
  simp only [Bool.not_false, Bool.true_or, if_true]
  clear c2 c3 c4 c5 c6
  refine Bd Tryz.func113 Tryz.ntmps113 fun σ N hp hpn hk hkn hfree => ?_
  obtain ⟨hd, hdn⟩ := HD0 hp hpn; clear hp hpn
  have hcs := And.intro c1 True.intro
  clear c1
  exact W0
 | true =>
  rw [hr] at c1
  simp only [Bool.not_true, Bool.false_or]
  by_cases g1 : ep < 1
  ·rw [decide_eq_true g1]
   simp only [Bool.true_or, if_true]
   clear c2 c3 c4 c5 c6
   refine Bd Tryz.func113 Tryz.ntmps113 fun σ N hp hpn hk hkn hfree => ?_
   obtain ⟨hd, hdn⟩ := HD0 hp hpn; clear hp hpn
   have hcs := And.intro c1 True.intro
   clear c1
   exact W0
  rw [decide_eq_false g1]
  by_cases g2 : 1000 < ep
  ·rw [decide_eq_true g2]
   simp only [Bool.true_or, Bool.false_or, if_true]
   clear c2 c3 c4 c5 c6
   refine Bd Tryz.func113 Tryz.ntmps113 fun σ N hp hpn hk hkn hfree => ?_
   obtain ⟨hd, hdn⟩ := HD0 hp hpn; clear hp hpn
   have hcs := And.intro c1 True.intro
   clear c1
   exact W0
  rw [decide_eq_false g2]
  by_cases g3 : se < 1
  ·rw [decide_eq_true g3]
   simp only [Bool.true_or, Bool.false_or, if_true]
   clear c2 c3 c4 c5 c6
   refine Bd Tryz.func113 Tryz.ntmps113 fun σ N hp hpn hk hkn hfree => ?_
   obtain ⟨hd, hdn⟩ := HD0 hp hpn; clear hp hpn
   have hcs := And.intro c1 True.intro
   clear c1
   exact W0
  rw [decide_eq_false g3]
  by_cases g4 : 1073741824 < se
  ·rw [decide_eq_true g4]
   simp only [Bool.or_true, if_true]
   clear c2 c3 c4 c5 c6
   refine Bd Tryz.func113 Tryz.ntmps113 fun σ N hp hpn hk hkn hfree => ?_
   obtain ⟨hd, hdn⟩ := HD0 hp hpn; clear hp hpn
   have hcs := And.intro c1 True.intro
   clear c1
   exact W0
  rw [decide_eq_false g4]
  simp only [Bool.or_self, Bool.false_eq_true, if_false]
  cases vc with
  | true =>
   simp only [if_true]
   clear c3 c4 c5 c6
   refine Bd Tryz.func113 Tryz.ntmps113 fun σ N hp hpn hk hkn hfree => ?_
   obtain ⟨hd, hdn⟩ := HD0 hp hpn; clear hp hpn
   have hcs := And.intro c1 (And.intro c2 True.intro)
   clear c1 c2
   exact W0
  | false =>
   simp only [Bool.false_eq_true, if_false]
   cases vl with
   | true =>
    simp only [true_or, if_true]
    clear c4 c5 c6
    refine Bd Tryz.func113 Tryz.ntmps113 fun σ N hp hpn hk hkn hfree => ?_
    obtain ⟨hd, hdn⟩ := HD0 hp hpn; clear hp hpn
    have hcs := And.intro c1 (And.intro c2 (And.intro c3 True.intro))
    clear c1 c2 c3
    exact W0
   | false =>
    simp only [Bool.false_eq_true, false_or]
    cases vb with
    | true =>
     simp only [if_true]
     clear c5 c6
     refine Bd Tryz.func113 Tryz.ntmps113 fun σ N hp hpn hk hkn hfree => ?_
     obtain ⟨hd, hdn⟩ := HD0 hp hpn; clear hp hpn
     have hcs := And.intro c1 (And.intro c2 (And.intro c3 (And.intro c4 True.intro)))
     clear c1 c2 c3 c4
     exact W0
    | false =>
     simp only [Bool.false_eq_true, if_false]
     have c6 := c6 rfl
     cases vr with
     | true =>
      simp only [if_true]
      clear c6
      refine Bd Tryz.func113 Tryz.ntmps113 fun σ N hp hpn hk hkn hfree => ?_
      obtain ⟨hd, hdn⟩ := HD0 hp hpn; clear hp hpn
      have hcs := And.intro c1 (And.intro c2 (And.intro c3 (And.intro c4 (And.intro c5 True.intro))))
      clear c1 c2 c3 c4 c5
      exact W0
     | false =>
      simp only [Bool.false_eq_true, if_false]
      cases vt with
      | true =>
       simp only [if_true]
       refine Bd Tryz.func113 Tryz.ntmps113 fun σ N hp hpn hk hkn hfree => ?_
       obtain ⟨hd, hdn⟩ := HD0 hp hpn; clear hp hpn
       have hcs := And.intro c1 (And.intro c2 (And.intro c3 (And.intro c4 (And.intro c5 (And.intro c6 True.intro)))))
       clear c1 c2 c3 c4 c5 c6
       exact W0
      | false =>
       simp only [Bool.false_eq_true, if_false]
       refine Bd Tryz.func113 Tryz.ntmps113 fun σ N hp hpn hk hkn hfree => ?_
       obtain ⟨hd, hdn⟩ := HD0 hp hpn; clear hp hpn
       have hcs := And.intro c1 (And.intro c2 (And.intro c3 (And.intro c4 (And.intro c5 (And.intro c6 True.intro)))))
       clear c1 c2 c3 c4 c5 c6
       exact W0
def chkS (b : Bu) : Nat := if partsS b ≠ 0 then partsS b else if 4096 < (encBu b).length then 2 else 0
theorem chk_valid {b : Bu} (hb : BuIn b) (h : chkS b = 0) : BuV b ∧ (encBu b).length ≤ 4096 := by
 unfold chkS at h
 split at h
 ·rename_i h1; exact absurd h h1
 ·rename_i h1
  split at h
  ·cases h
  ·exact ⟨parts_valid hb (by simpa using h1), by omega⟩
theorem Check_spec (b : Bu) (hb : BuIn b) (d k : Nat) : ACall Tryz.prog 46 [buAV b] k [(d, bitsG)] (.lit (.int .i64 (chkS b : Nat))) [] := by
 have c1 := parts_spec b hb d
 have hv := parts_valid hb
 unfold chkS
 by_cases h : partsS b = 0
 ·have c2 := encoded_spec b (hv h) d
  rw [if_neg (by simpa using h)]
  rw [h] at c1
  clear hv hb h
  generalize encBu b = x at *
  by_cases h2 : 4096 < x.length
  ·have h2i : (4096 : Int) < (x.length : Int) := by omega
   rw [if_pos h2]
   refine Bd Tryz.func46 Tryz.ntmps46 fun σ N hp hpn hk hkn hfree => ?_
   obtain ⟨hd, hdn⟩ := HD0 hp hpn; clear hp hpn
   have hcs := And.intro c1 (And.intro c2 True.intro)
   clear c1 c2
   exact W0
  ·have h2i : ¬ (4096 : Int) < (x.length : Int) := by omega
   rw [if_neg h2]
   refine Bd Tryz.func46 Tryz.ntmps46 fun σ N hp hpn hk hkn hfree => ?_
   obtain ⟨hd, hdn⟩ := HD0 hp hpn; clear hp hpn
   have hcs := And.intro c1 (And.intro c2 True.intro)
   clear c1 c2
   exact W0
 ·rw [if_pos h]
  clear hv hb
  generalize partsS b = e at *
  have hei : ((e : Int) != 0) = true := by simp; omega
  refine Bd Tryz.func46 Tryz.ntmps46 fun σ N hp hpn hk hkn hfree => ?_
  obtain ⟨hd, hdn⟩ := HD0 hp hpn; clear hp hpn
  have hcs := And.intro c1 True.intro
  clear c1
  exact W0
def encBS (b : Bu) : List UInt8 × Nat := if chkS b = 0 then (encBu b, 0) else ([], chkS b)
theorem EncodeB_spec (b : Bu) (hb : BuIn b) (d k : Nat) : ACall Tryz.prog 116 [buAV b] k [(d, bitsG)] (encAV (encBS b)) [] := by
 have c1 := Check_spec b hb d
 have hv := fun h => (chk_valid hb h).1
 unfold encBS encAV
 by_cases h : chkS b = 0
 ·have c2 := encoded_spec b (hv h) d
  rw [if_pos h]
  rw [h] at c1
  clear hv hb h
  simp only
  generalize encBu b = x at *
  refine Bd Tryz.func116 Tryz.ntmps116 fun σ N hp hpn hk hkn hfree => ?_
  obtain ⟨hd, hdn⟩ := HD0 hp hpn; clear hp hpn
  have hcs := And.intro c1 (And.intro c2 True.intro)
  clear c1 c2
  exact WL
 ·rw [if_neg h]
  clear hv hb
  generalize chkS b = e at *
  have hei : ((e : Int) != 0) = true := by simp; omega
  simp only [List.map_nil]
  refine Bd Tryz.func116 Tryz.ntmps116 fun σ N hp hpn hk hkn hfree => ?_
  obtain ⟨hd, hdn⟩ := HD0 hp hpn; clear hp hpn
  have hcs := And.intro c1 True.intro
  clear c1
  exact WL

theorem SameX_spec (cs bs : List UInt8) (ha : cs.length ≤ 9223372036854775807) (k : Nat) : ACall Tryz.prog 69 [.slice none (cs.map byteAV), .slice none (bs.map byteAV)] k [] (.lit (.bool (decide (cs = bs)))) [] := by
 by_cases hl : cs.length = bs.length
 ·refine Bd Tryz.func69 Tryz.ntmps69 fun σ N hp hpn hk hkn hfree => ?_
  refine Wk ?_
  refine go_loopF mixed (by kernel_rfl) [4, 5, 11, 12, 13, 14, 15, 16, 17, 18, 19, 20, 21, 22, 23, 24, 25] [] (fun m_ s_ σ_ n_ => ∃ (u : Nat), m_ = cs.length - u ∧ s_ 5 = .lit (.int .i64 u) ∧ (u ≤ cs.length) ∧ (cs.take u = bs.take u)) ⟨_, 0, rfl, WF, WC, WC⟩ ?_
  intro m_1 s_1 σ_1 n_1 hs_1 hf_1 hn_1 hI_1
  obtain ⟨u, hm_1, h1_5, hu, heq⟩ := hI_1
  have h1_0 := KS hs_1 0
  have h1_1 := KS hs_1 1
  have hlow := KL (N := N) (σ := σ) hf_1
  by_cases hul : u = cs.length
  ·have hr : decide (cs = bs) = true := by
    rw [hul, List.take_length, hl, List.take_length] at heq
    simp [heq]
   subst hul
   rw [hr]
   clear heq hr
   exact W0
  ·have hua : u < cs.length := by omega
   have hub : u < bs.length := by omega
   obtain ⟨x, hx⟩ : ∃ x, cs[u] = x := ⟨_, rfl⟩
   obtain ⟨y, hy⟩ : ∃ y, bs[u] = y := ⟨_, rfl⟩
   have hxb : byteAV x = .lit (.int .u8 x.toNat) := rfl
   have hyb : byteAV y = .lit (.int .u8 y.toNat) := rfl
   by_cases hxy : x = y
   ·have heq2 : cs.take (u + 1) = bs.take (u + 1) := by
     rw [List.take_add_one, List.take_add_one, heq, List.getElem?_eq_getElem hua, List.getElem?_eq_getElem hub, hx, hy, hxy]
    subst hxy
    clear heq
    refine Wk ?_
    exact ⟨WS, WG, WN, _, (show cs.length - (u + 1) < m_1 by omega), u + 1, rfl, WF, WC, WC⟩
   ·have hr : decide (cs = bs) = false := by
     have : cs ≠ bs := fun h => by subst h; rw [hx] at hy; exact hxy hy
     simp [this]
    rw [hr]
    have hne : ((x.toNat : Int) != (y.toNat : Int)) = true := by
     simp only [bne_iff_ne, ne_eq]
     intro h
     exact hxy (UInt8.toNat_inj.1 (by omega))
    clear heq hr
    exact W0
 ·have hr : decide (cs = bs) = false := by
   have : cs ≠ bs := fun h => hl (by rw [h])
   simp [this]
  rw [hr]
  refine Bd Tryz.func69 Tryz.ntmps69 fun σ N hp hpn hk hkn hfree => ?_
  exact W0
end Go.Proofs.YtdmjpolnbmoehaaGreatDoor
