/- Texts C1p, C3p, C4p, Fp, Q5, W1, M10p, W4, W2, W6, Q6, W8, joined. -/
import Derived.Test.YtdmjpolnbmoehaaGreatDoorMS1

namespace Go.Ab
open Go.RowKit
theorem byte_of_wf {a : Int} (h : (Lit.int .u8 a).wf = true) : ∃ b : UInt8, AV.lit (.int .u8 a) = byteAV b ∧ a = (b.toNat : Int) := by
 have hw : IntKind.u8.min ≤ a ∧ a ≤ IntKind.u8.max := by simpa [Lit.wf] using h
 have e1 : IntKind.u8.min = 0 := by decide
 have e2 : IntKind.u8.max = 255 := by decide
 obtain ⟨n, rfl⟩ := Int.eq_ofNat_of_zero_le (show 0 ≤ a by omega)
 refine ⟨UInt8.ofNat n, ?_, ?_⟩
 ·simp only [byteAV]
  rw [UInt8.toNat_ofNat', Nat.mod_eq_of_lt (by omega)]
 ·rw [UInt8.toNat_ofNat', Nat.mod_eq_of_lt (by omega)]
end Go.Ab

namespace Go.Ab
open Go.RowKit Go.ChangeShapes
def layB (P : Program) : List Field → Nat → Nat → Bool
 | [], off, tot => off == tot
 | f :: fs, off, tot => f.offset == off && layB P fs (off + P.cellsOf f.type) tot
def dataTy (P : Program) : Nat → TypeId → Bool
 | 0, _ => false
 | m + 1, t => match P.underlying t with
  | some .bool => P.cellsOf t == 1
  | some (.int _) => P.cellsOf t == 1
  | some .string => P.cellsOf t == 1
  | some (.slice e) => dataTy P m e && decide (0 < P.cellsOf e) && P.cellsOf t == 1
  | some (.array n e) => dataTy P m e && P.cellsOf t == n * P.cellsOf e
  | some (.struct fs) => (fs.toList.all fun f => dataTy P m f.type) && layB P fs.toList 0 (P.cellsOf t)
  | _ => false
def aggT (P : Program) (t : TypeId) : Bool :=
 match P.underlying t with
 | some (.array _ _) | some (.struct _) => true
 | _ => false
theorem range_mapM_cells {w : World} {a : Addr} {n : Nat} {cs : List Value} (h : (List.range n).mapM (fun i => w.cell? (a.add i)) = some cs) : cs.length = n ∧ ∀ (i : Nat) (v : Value), cs[i]? = some v → w.cell? (a.add i) = some v := by
 have hl := mapM_some_length h
 refine ⟨by simpa using hl, fun i v hv => ?_⟩
 have hi : i < n := by have := (List.getElem?_eq_some_iff.1 hv).1; simp at hl; omega
 have := mapM_some_get h i i (by simp [hi])
 rw [this]; exact hv
theorem flat_pieces {cs : List Value} {size : Nat} : ∀ (vs : List Value), cs.length = vs.length * size → (∀ (i : Nat) (v : Value), vs[i]? = some v → v.cells.toList = (cs.drop (i * size)).take size) → flat vs = cs
 | [], hl, _ => by
  simp at hl
  subst hl; rfl
 | v :: vs, hl, h => by
  have h0 := h 0 v rfl
  simp only [Nat.zero_mul, List.drop_zero] at h0
  rw [flat_cons, h0]
  simp only [List.length_cons, Nat.add_mul, Nat.one_mul] at hl
  have ih := flat_pieces (cs := cs.drop size) (size := size) vs (by rw [List.length_drop]; omega) fun i u hu => by
   have := h (i + 1) u (by simpa using hu)
   rw [this, List.drop_drop]
   congr 2
   rw [Nat.add_mul]; omega
  rw [ih, List.take_append_drop]
theorem flat_fields {P : Program} {cs : List Value} : ∀ (fs : List Field) (vs : List Value) (off : Nat), layB P fs off cs.length = true → vs.length = fs.length → off ≤ cs.length → (∀ (i : Nat) (f : Field) (v : Value), fs[i]? = some f → vs[i]? = some v → v.cells.toList = (cs.drop f.offset).take (P.cellsOf f.type) ∧ v.cells.size = P.cellsOf f.type) → flat vs = cs.drop off
 | [], vs, off, hl, hv, hle, _ => by
  cases vs with
  | nil =>
   simp only [layB, beq_iff_eq] at hl
   rw [hl, List.drop_length]; rfl
  | cons => simp at hv
 | f :: fs, vs, off, hl, hv, hle, h => by
  cases vs with
  | nil => simp at hv
  | cons v vs =>
   simp only [layB, Bool.and_eq_true, beq_iff_eq] at hl
   obtain ⟨h1, h2⟩ := h 0 f v rfl rfl
   have hsz : ((cs.drop off).take (P.cellsOf f.type)).length = P.cellsOf f.type := by rw [← hl.1, ← h1, Array.length_toList, h2]
   rw [List.length_take, List.length_drop] at hsz
   have ih := flat_fields (P := P) (cs := cs) fs vs (off + P.cellsOf f.type) hl.2 (by simpa using hv) (by omega) fun i g u hg hu => h (i + 1) g u (by simpa using hg) (by simpa using hu)
   rw [flat_cons, h1, hl.1, ih, ← List.drop_drop, List.take_append_drop]
theorem list_of {α : Type} {Q : Nat → α → Prop} : ∀ n, (∀ i, i < n → ∃ p, Q i p) → ∃ l : List α, l.length = n ∧ ∀ (i : Nat) (p : α), l[i]? = some p → Q i p
 | 0, _ => ⟨[], rfl, fun i p h => by simp at h⟩
 | n + 1, h => by
  obtain ⟨l, hl, hq⟩ := list_of n fun i hi => h i (by omega)
  obtain ⟨p, hp⟩ := h n (by omega)
  refine ⟨l ++ [p], by simp [hl], fun i q hq' => ?_⟩
  by_cases hi : i < l.length
  ·rw [List.getElem?_append_left hi] at hq'; exact hq i q hq'
  ·rw [List.getElem?_append_right (by omega)] at hq'
   have : i - l.length = 0 := by
    have := (List.getElem?_eq_some_iff.1 hq').1
    simp at this; omega
   rw [this] at hq'
   simp at hq'
   subst hq'
   have : i = n := by omega
   rw [this]; exact hp
theorem weightsAll_mem {H : Type} {P : Program} {e : TypeId} : ∀ {ds : List (DataW H)} {i : Nat} {d : DataW H}, ds[i]? = some d → ∀ n ∈ d.weights P e, n ∈ DataW.weightsAll P e ds
 | d0 :: r, 0, d, h, n, hn => by
  simp only [List.getElem?_cons_zero, Option.some.injEq] at h
  subst h
  simp only [DataW.weightsAll, List.mem_append]
  exact .inl hn
 | d0 :: r, i + 1, d, h, n, hn => by
  simp only [List.getElem?_cons_succ] at h
  simp only [DataW.weightsAll, List.mem_append]
  exact .inr (weightsAll_mem h n hn)
 | [], _, _, h, _, _ => by simp at h
section
variable {H : Type} {enc : TypeId × Value → H} {P : Program} {w : World} {base : Nat} {spare : Nat → Bool} {held : Bool}
theorem trod_rep : ∀ (m : Nat) (t : TypeId), dataTy P m t = true → ∀ (fuel : Nat) (cs : List Value) (x : DataW H × List MemPlace), DataW.trod enc P w base spare held fuel t cs = some x → (∀ n ∈ x.1.weights P t, n ≤ 140737488351232) →
  ∃ (p : AV × Value), p.2.cells.toList = cs ∧ Rep (g0 w) p.1 p.2 ∧ tyAV P m t p.1 ∧ p.2.cells.size = P.cellsOf t ∧ valAgg p.2 = aggT P t ∧ valTup p.2 = false
 | 0, _, h => by simp [dataTy] at h
 | m + 1, t, h => by
  intro fuel cs x hx hw0
  unfold dataTy at h
  unfold tyAV aggT
  split at h
  ·rename_i ht
   obtain ⟨b, rfl, rfl⟩ := DataW.trod_bool ht hx
   simp only [ht]
   exact ⟨(.lit (.bool b), .bool b), rfl, .lit _ rfl, ⟨b, rfl⟩, by simpa [Value.cells] using (beq_iff_eq.1 h).symm, rfl, rfl⟩
  ·rename_i k ht
   obtain ⟨n, rfl, rfl, hw⟩ := DataW.trod_int ht hx
   simp only [ht]
   exact ⟨(.lit (.int k n), .int k n), rfl, .lit _ rfl, ⟨n, rfl, hw⟩, by simpa [Value.cells] using (beq_iff_eq.1 h).symm, rfl, rfl⟩
  ·rename_i ht
   obtain ⟨s, rfl, rfl, hw⟩ := DataW.trod_string ht hx
   simp only [ht]
   refine ⟨(.lit (.string s), .string s), rfl, .lit _ rfl, ⟨s.data.toList, by simp, ?_⟩, by simpa [Value.cells] using (beq_iff_eq.1 h).symm, rfl, rfl⟩
   unfold maxLen at hw
   have : s.data.toList.length = s.size := by simp
   omega
  ·rename_i e ht
   simp only [Bool.and_eq_true, decide_eq_true_eq, beq_iff_eq] at h
   obtain ⟨⟨h1, h2⟩, h3⟩ := h
   simp only [ht]
   rcases DataW.trod_slice ht hx with ⟨rfl, rfl⟩ | ⟨a, len, cap, elems, rest, n, _, rfl, rfl, hba, hlc, hcm, hel, hcell, _⟩
   ·exact ⟨(.slice none [], .slice none 0 0), rfl, AV.le_nils0 _ _ .nils, ⟨[], rfl, by simp, (fun y hy => by cases hy), by simp⟩, by simp [Value.cells, h3], rfl, rfl⟩
   ·have hwu : (DataW.slice (elems.map (·.1)) (rest.map (·.1))).weights P t = ((elems.map (·.1)).length + (rest.map (·.1)).length) * P.bytesOf e :: (DataW.weightsAll P e (elems.map (·.1)) ++ DataW.weightsAll P e (rest.map (·.1))) := by simp only [DataW.weights, ht]
    simp only [hwu] at hw0
    have hwl : len * P.bytesOf e ≤ 140737488351232 := Nat.le_trans (Nat.mul_le_mul_right _ (by rw [List.length_map, hel]; omega)) (hw0 _ (List.mem_cons_self ..))
    have hwe : ∀ (i : Nat) (z : DataW H × List MemPlace), elems[i]? = some z → ∀ n ∈ z.1.weights P e, n ≤ 140737488351232 := fun i z hz n hn =>
     hw0 n (List.mem_cons_of_mem _ (List.mem_append_left _ (weightsAll_mem (i := i) (by rw [List.getElem?_map, hz]; rfl) n hn)))
    obtain ⟨l, hl, hq⟩ := list_of (Q := fun i (p : AV × Value) => Rep (g0 w) p.1 p.2 ∧ tyAV P m e p.1 ∧ p.2.cells.size = P.cellsOf e ∧ ∀ (j : Nat) (v : Value), p.2.cells.toList[j]? = some v → w.cell? ((a.add (i * P.cellsOf e)).add j) = some v) len fun i hi => by
     have hc := hcell i hi
     have hei : elems[i]? = some elems[i] := List.getElem?_eq_getElem (by omega)
     rw [hei] at hc
     simp only [Option.bind_eq_some_iff] at hc
     obtain ⟨cs, hcs, hd⟩ := hc
     unfold World.cells? at hcs
     split at hcs
     ·obtain ⟨hcl, hcc⟩ := range_mapM_cells hcs
      obtain ⟨p, p1, p2, p3, p4, p5, p6⟩ := trod_rep m e h1 n cs _ hd (hwe i _ hei)
      exact ⟨p, p2, p3, p4, by rw [p1]; exact hcc⟩
     ·cases hcs
    have hlen : (l.map (·.1)).length = len := by simp [hl]
    have hsz : ∀ v ∈ l.map (·.2), v.cells.size = P.cellsOf e := fun v hv => by
     obtain ⟨p, hp, rfl⟩ := List.mem_map.1 hv
     obtain ⟨i, hi⟩ := List.getElem?_of_mem hp
     exact (hq i p hi).2.2.1
    have hrep := Rep.slice (g := g0 w) none (l.map (·.1)) (l.map (·.2)) (some a) cap (P.cellsOf e) (by simp) (by rw [hlen]; exact hlc) hcm
     (fun i x v hx hv => by
      rw [List.getElem?_map] at hx hv
      cases hli : l[i]? with
      | none => rw [hli] at hx; cases hx
      | some p => rw [hli] at hx hv; cases hx; cases hv; exact (hq i p hli).1) hsz
     (by
      rw [hlen]
      by_cases h0 : len = 0
      ·exact .inl h0
      ·right
       have hl0 : l[0]? = some l[0] := List.getElem?_eq_getElem (by omega)
       obtain ⟨_, _, q3, q4⟩ := hq 0 _ hl0
       have hc0 : 0 < (l[0]).2.cells.toList.length := by rw [Array.length_toList, q3]; exact h2
       have hcell0 := q4 0 _ (List.getElem?_eq_getElem hc0)
       have hspot : a.spot = none := by
        have := World.cell?_spot hcell0
        simpa [Addr.add] using this
       obtain ⟨b, off, sp⟩ := a
       simp only at hspot
       subst hspot
       have hb : b < w.heap.size := by
        rw [Addr.add_lit, Addr.add_lit] at hcell0
        rcases Nat.lt_or_ge b w.heap.size with h | h
        ·exact h
        ·exfalso
         simp [World.cell?, Array.getElem?_eq_none h] at hcell0
       refine ⟨b, off, rfl, fun j u hu => ?_⟩
       simp only [g0, if_pos hb]
       have hflen : (flat (l.map (·.2))).length = len * P.cellsOf e := by rw [flat_length _ _ hsz, List.length_map, hl]
       have hj : j < len * P.cellsOf e := by rw [← hflen]; exact (List.getElem?_eq_some_iff.1 hu).1
       have hi : j / P.cellsOf e < len := by rw [Nat.div_lt_iff_lt_mul h2]; exact hj
       have hli : l[j / P.cellsOf e]? = some l[j / P.cellsOf e] := List.getElem?_eq_getElem (by omega)
       obtain ⟨_, _, r3, r4⟩ := hq _ _ hli
       have hjm : j % P.cellsOf e < (l[j / P.cellsOf e]).2.cells.toList.length := by rw [Array.length_toList, r3]; exact Nat.mod_lt _ h2
       have hat := flat_at (l.map (·.2)) (P.cellsOf e) hsz (j / P.cellsOf e) (l[j / P.cellsOf e]).2 (by rw [List.getElem?_map, hli]; rfl) (j % P.cellsOf e) _ (List.getElem?_eq_getElem hjm)
       have hsplit : j / P.cellsOf e * P.cellsOf e + j % P.cellsOf e = j := by rw [Nat.mul_comm]; exact Nat.div_add_mod j (P.cellsOf e)
       rw [hsplit, hu] at hat
       have hcl := r4 (j % P.cellsOf e) u (by rw [List.getElem?_eq_getElem hjm]; exact hat.symm)
       rw [Addr.add_lit, Addr.add_lit] at hcl
       rw [← hcl]
       congr 2
       omega) (fun id hid => by cases hid)
    rw [hlen] at hrep
    refine ⟨(.slice none (l.map (·.1)), .slice (some a) len cap), rfl, hrep, ⟨_, rfl, by rw [hlen]; unfold maxLen at hcm; omega, fun y hy => ?_, by rw [hlen]; exact hwl⟩, by simp [Value.cells, h3], rfl, rfl⟩
    obtain ⟨p, hp, rfl⟩ := List.mem_map.1 hy
    obtain ⟨i, hi⟩ := List.getElem?_of_mem hp
    exact (hq i p hi).2.1
  ·rename_i n e ht
   simp only [Bool.and_eq_true, beq_iff_eq] at h
   obtain ⟨h1, h2⟩ := h
   obtain ⟨xs, q, _, rfl, hl, hxl, hf⟩ := DataW.trod_array ht hx
   have hwu : (DataW.agg (xs.map (·.1))).weights P t = DataW.weightsAll P e (xs.map (·.1)) := by simp only [DataW.weights, ht]
   simp only [hwu] at hw0
   have hwe : ∀ (i : Nat) (z : DataW H × List MemPlace), xs[i]? = some z → ∀ n ∈ z.1.weights P e, n ≤ 140737488351232 := fun i z hz n hn =>
    hw0 n (weightsAll_mem (i := i) (by rw [List.getElem?_map, hz]; rfl) n hn)
   simp only [ht]
   obtain ⟨l, hll, hq⟩ := list_of (Q := fun i (p : AV × Value) => Rep (g0 w) p.1 p.2 ∧ tyAV P m e p.1 ∧ p.2.cells.size = P.cellsOf e ∧ p.2.cells.toList = (cs.drop (i * P.cellsOf e)).take (P.cellsOf e)) n fun i hi => by
    have hd := hf i hi
    have hxi : xs[i]? = some (xs[i]'(by omega)) := List.getElem?_eq_getElem (by omega)
    rw [hxi] at hd
    obtain ⟨p, p1, p2, p3, p4, p5, p6⟩ := trod_rep m e h1 q _ _ hd (hwe i _ hxi)
    exact ⟨p, p2, p3, p4, p1⟩
   have hfl : flat (l.map (·.2)) = cs := flat_pieces (size := P.cellsOf e) _ (by rw [hl, h2, List.length_map, hll]) fun i v hv => by
    rw [List.getElem?_map] at hv
    cases hli : l[i]? with
    | none => rw [hli] at hv; cases hv
    | some p => rw [hli] at hv; cases hv; exact (hq i p hli).2.2.2
   refine ⟨(.agg (l.map (·.1)), .agg (flat (l.map (·.2))).toArray), by rw [hfl]; rfl, .agg _ _ (by simp) (fun i x v hx hv => ?_), ⟨_, rfl, by simp [hll], fun y hy => ?_⟩, by simp [Value.cells, hfl, hl], rfl, rfl⟩
   ·rw [List.getElem?_map] at hx hv
    cases hli : l[i]? with
    | none => rw [hli] at hx; cases hx
    | some p => rw [hli] at hx hv; cases hx; cases hv; exact (hq i p hli).1
   ·obtain ⟨p, hp, rfl⟩ := List.mem_map.1 hy
    obtain ⟨i, hi⟩ := List.getElem?_of_mem hp
    exact (hq i p hi).2.1
  ·rename_i fs ht
   simp only [Bool.and_eq_true, List.all_eq_true] at h
   obtain ⟨h1, h2⟩ := h
   obtain ⟨xs, q, _, rfl, hl, hxl, hf⟩ := DataW.trod_struct ht hx
   have hwu : (DataW.agg (xs.map (·.1))).weights P t = DataW.weightsEach P (fs.toList.map (·.type)) (xs.map (·.1)) := by simp only [DataW.weights, ht]
   simp only [hwu] at hw0
   have hwe : ∀ (i : Nat) (f : Field) (z : DataW H × List MemPlace), fs[i]? = some f → xs[i]? = some z → ∀ n ∈ z.1.weights P f.type, n ≤ 140737488351232 := fun i f z hf hz n hn =>
    hw0 n (DataW.weights_mem_each (j := i) (t := f.type) (by rw [List.getElem?_map, Array.getElem?_toList, hf]; rfl) (by rw [List.getElem?_map, hz]; rfl) n hn)
   simp only [ht]
   obtain ⟨l, hll, hq⟩ := list_of (Q := fun i (p : AV × Value) => ∀ f, fs[i]? = some f → Rep (g0 w) p.1 p.2 ∧ tyAV P m f.type p.1 ∧ p.2.cells.size = P.cellsOf f.type ∧ p.2.cells.toList = (cs.drop f.offset).take (P.cellsOf f.type)) fs.size fun i hi => by
    have hfi : fs[i]? = some fs[i] := by simp [hi]
    have hd := hf i _ hfi
    have hxi : xs[i]? = some (xs[i]'(by omega)) := List.getElem?_eq_getElem (by omega)
    rw [hxi] at hd
    obtain ⟨p, p1, p2, p3, p4, p5, p6⟩ := trod_rep m (fs[i]).type (h1 _ (Array.getElem_mem_toList hi)) q _ _ hd (hwe i _ _ hfi hxi)
    exact ⟨p, fun f hf' => by rw [hfi] at hf'; cases hf'; exact ⟨p2, p3, p4, p1⟩⟩
   have hfl : flat (l.map (·.2)) = cs := by
    have := flat_fields (P := P) (cs := cs) fs.toList (l.map (·.2)) 0 (by rw [hl]; exact h2) (by simp [hll]) (Nat.zero_le _) fun i f v hf' hv => by
     rw [List.getElem?_map] at hv
     cases hli : l[i]? with
     | none => rw [hli] at hv; cases hv
     | some p =>
      rw [hli] at hv; cases hv
      obtain ⟨_, _, q3, q4⟩ := hq i p hli f (by simpa using hf')
      exact ⟨q4, q3⟩
    simpa using this
   have hat : ∀ (i : Nat) (p : AV × Value), l[i]? = some p → ∃ f, fs[i]? = some f := fun i p hp => by
    have : i < fs.size := by have := (List.getElem?_eq_some_iff.1 hp).1; omega
    exact ⟨fs[i], by simp [this]⟩
   refine ⟨(.agg (l.map (·.1)), .agg (flat (l.map (·.2))).toArray), by rw [hfl]; rfl, .agg _ _ (by simp) (fun i x v hx hv => ?_), ⟨_, rfl, by simp [hll], fun i f y hf' hy => ?_⟩, by simp [Value.cells, hfl, hl], rfl, rfl⟩
   ·rw [List.getElem?_map] at hx hv
    cases hli : l[i]? with
    | none => rw [hli] at hx; cases hx
    | some p =>
     rw [hli] at hx hv; cases hx; cases hv
     obtain ⟨f, hf'⟩ := hat i p hli
     exact (hq i p hli f hf').1
   ·rw [List.getElem?_map] at hy
    cases hli : l[i]? with
    | none => rw [hli] at hy; cases hy
    | some p => rw [hli] at hy; cases hy; exact (hq i p hli f hf').2.1
  ·cases h
theorem open_any {m : Nat} {t : TypeId} {v : Value} {d : DataW H} {ps : List MemPlace} {r : Reach} {b0 : Nat} (ht : dataTy P m t = true) (hval : Value.okWide P w r b0 t v) (hd : DataW.Trod enc P w base spare held t v d ps) (hw : ∀ n ∈ d.weights P t, n ≤ 140737488351232) : ∃ x, Rep (g0 w) x v ∧ tyAV P m t x := by
 obtain ⟨fuel, hf⟩ := hd
 obtain ⟨p, p1, p2, p3, p4, p5, p6⟩ := trod_rep m t ht fuel _ _ hf hw
 have hv : p.2 = v := by
  unfold Value.okWide at hval
  cases ha : aggT P t with
  | true =>
   have hag : ∃ cs, v = .agg cs := by
    unfold aggT at ha
    split at ha
    ·rename_i h; rw [h] at hval; exact ⟨_, hval.choose_spec.1⟩
    ·rename_i h; rw [h] at hval; exact ⟨_, hval.choose_spec.1⟩
    ·cases ha
   obtain ⟨cs, rfl⟩ := hag
   rw [ha] at p5
   cases hp : p.2 <;> rw [hp] at p5 <;> simp [valAgg] at p5
   rename_i cs'
   rw [hp] at p1
   simp only [Value.cells] at p1
   congr 1
   exact Array.ext' p1
  | false =>
   rw [ha] at p5
   have hna : valAgg v = false := by
    cases v <;> try rfl
    rename_i cs
    exfalso
    obtain ⟨m', rfl⟩ : ∃ k, m = k + 1 := by cases m with
     | zero => simp [dataTy] at ht
     | succ k => exact ⟨k, rfl⟩
    unfold dataTy at ht
    unfold aggT at ha
    split at ht <;> first | (cases ht; done) | (rename_i h; rw [h] at ha hval; simp [Cell.okWide, Cell.ok] at ha hval; done)
   have c1 : ∀ u : Value, valAgg u = false → u.cells = #[u] := fun u hu => by cases u <;> simp_all [valAgg, Value.cells]
   rw [c1 _ p5, c1 _ hna] at p1
   simpa using p1
 subst hv
 exact ⟨p.1, p2, p3⟩
end
end Go.Ab

namespace Go.Ab
open Go.RowKit
theorem list_map_of {α : Type} {R : α → Prop} {f : α → AV} : ∀ {xs : List AV}, (∀ y ∈ xs, ∃ d, R d ∧ y = f d) → ∃ ds : List α, (∀ d ∈ ds, R d) ∧ xs = ds.map f ∧ ds.length = xs.length
 | [], _ => ⟨[], fun d h => (by cases h), rfl, rfl⟩
 | x :: xs, h => by
  obtain ⟨d, h1, h2⟩ := h x (List.mem_cons_self ..)
  obtain ⟨ds, h3, h4, h5⟩ := list_map_of (xs := xs) fun y hy => h y (List.mem_cons_of_mem _ hy)
  refine ⟨d :: ds, fun e he => ?_, by simp [h2, ← h4], by simp [h5]⟩
  rcases List.mem_cons.1 he with rfl | he
  ·exact h1
  ·exact h3 e he
theorem ty_int {P : Program} {m : Nat} {t : TypeId} {k : IntKind} {x : AV} (ht : intTy P t = some k) (h : tyAV P (m + 1) t x) : ∃ n, (Lit.int k n).wf = true ∧ x = .lit (.int k n) := by
 unfold tyAV at h
 rw [intTy_sound ht] at h
 obtain ⟨n, h1, h2⟩ := h
 exact ⟨n, h2, h1⟩
theorem ty_bool {P : Program} {m : Nat} {t : TypeId} {x : AV} (ht : boolTy P t = true) (h : tyAV P (m + 1) t x) : ∃ b, x = .lit (.bool b) := by
 have hb : P.underlying t = some .bool := by
  unfold boolTy at ht
  split at ht
  ·assumption
  ·cases ht
 unfold tyAV at h
 rw [hb] at h
 exact h
theorem ty_str {P : Program} {m : Nat} {t : TypeId} {x : AV} (ht : strTy P t = true) (h : tyAV P (m + 1) t x) : ∃ l : List UInt8, l.length ≤ 9223372036854775807 ∧ x = .lit (.string ⟨l.toArray⟩) := by
 unfold tyAV at h
 rw [strTy_sound ht] at h
 obtain ⟨l, h1, h2⟩ := h
 exact ⟨l, h2, h1⟩
theorem ty_sliceW {P : Program} {m : Nat} {t e : TypeId} {x : AV} (ht : sliceTy P t = some e) (h : tyAV P (m + 1) t x) : ∃ xs, xs.length ≤ 9223372036854775807 ∧ (∀ y ∈ xs, tyAV P m e y) ∧ x = .slice none xs ∧ xs.length * P.bytesOf e ≤ 140737488351232 := by
 unfold tyAV at h
 rw [sliceTy_sound ht] at h
 obtain ⟨xs, h1, h2, h3, h4⟩ := h
 exact ⟨xs, h2, h3, h1, h4⟩
theorem ty_byte {P : Program} {m : Nat} {t : TypeId} {x : AV} (ht : byteTy P t = true) (h : tyAV P (m + 1) t x) : ∃ b : UInt8, True ∧ x = byteAV b := by
 have he : P.underlying t = some (.int .u8) := by
  unfold byteTy at ht
  split at ht
  ·assumption
  ·cases ht
 unfold tyAV at h
 rw [he] at h
 obtain ⟨n, rfl, hw⟩ := h
 obtain ⟨b, hb, _⟩ := byte_of_wf hw
 exact ⟨b, trivial, hb⟩
theorem ty_bytesW {P : Program} {m : Nat} {t e : TypeId} {x : AV} (ht : sliceTy P t = some e) (he : byteTy P e = true) (hb : P.bytesOf e = 1) (h : tyAV P (m + 2) t x) : ∃ bs : List UInt8, bs.length ≤ 140737488351232 ∧ x = .slice none (bs.map byteAV) := by
 obtain ⟨xs, h1, h2, rfl, h0⟩ := ty_sliceW ht h
 obtain ⟨bs, _, h3, h4⟩ := list_map_of fun y hy => ty_byte he (h2 y hy)
 rw [hb] at h0
 exact ⟨bs, by omega, by rw [h3]⟩
theorem ty_struct {P : Program} {m : Nat} {t : TypeId} {fs : Array Field} {x : AV} (ht : P.underlying t = some (.struct fs)) (h : tyAV P (m + 1) t x) : ∃ xs, x = .agg xs ∧ xs.length = fs.size ∧ ∀ (i : Nat) (f : Field) (y : AV), fs[i]? = some f → xs[i]? = some y → tyAV P m f.type y := by
 unfold tyAV at h
 rw [ht] at h
 exact h
end Go.Ab

namespace Go.Proofs.YtdmjpolnbmoehaaGreatDoor
open Go.Ab
@[go_sem] theorem sl87 : sliceTy Tryz.prog 87 = some 45 := by kernel_rfl
@[go_sem] theorem si87 : sliceInfo Tryz.prog 87 = some (45, 1, 24, .nils) := by kernel_rfl
@[go_sem] theorem zt87 : ztree Tryz.prog 87 = some .nils := by kernel_rfl
@[go_sem] theorem tq87 : tyInfo Tryz.prog 87 = some (false, 1) ∧ byteTy Tryz.prog 87 = false ∧ Program.concrete Tryz.prog 87 = true ∧ strTy Tryz.prog 87 = false ∧ nilKind Tryz.prog 87 = 1 := by and_intros <;> kernel_rfl
end Go.Proofs.YtdmjpolnbmoehaaGreatDoor

namespace Go.Proofs.YtdmjpolnbmoehaaGreatDoor
open Go.Ab
attribute [local irreducible] Go.Ab.tyAV Go.Ab.aw Go.Ab.aops Go.Ab.kReg Go.Ab.aThen Go.Ab.aBlk Go.Ab.acond Go.Ab.aguard Go.Ab.astep Go.Ab.AStepX Go.Ab.aRet
attribute [local irreducible] shaG
section
variable [W : W32]
theorem mNode_node (a : Alg) (key : Tg) (msg : List UInt8) : nodeS a key msg = if (mNode a 0 key msg).2.1 = 0 then ((mNode a 0 key msg).1, (mNode a 0 key msg).2.2, 0) else (alg0, zeroTag, (mNode a 0 key msg).2.1) := by
 by_cases h : (macS a key msg).2.2 = 0
 ·have h1 : mMac a 0 key msg = ((macS a key msg).1, 0, (macS a key msg).2.1) := by unfold mMac; rw [if_neg (by simp), if_pos h]
  by_cases h' : (macS (macS a key msg).1 (macS a key msg).2.1 nodeB).2.2 = 0
  ·have h2 : mNode a 0 key msg = ((macS (macS a key msg).1 (macS a key msg).2.1 nodeB).1, 0, (macS a key msg).2.1) := by unfold mNode; rw [h1]; simp only; unfold mMac; rw [if_neg (by simp), if_pos h']
   rw [nodeS_3 h h', h2]; simp
  ·have h2 : (mNode a 0 key msg).2.1 = (macS (macS a key msg).1 (macS a key msg).2.1 nodeB).2.2 := by unfold mNode; rw [h1]; simp only; unfold mMac; rw [if_neg (by simp), if_neg h']
   rw [nodeS_2 h h', h2, if_neg h']
 ·have h1 : mMac a 0 key msg = (a, (macS a key msg).2.2, zeroTag) := by unfold mMac; rw [if_neg (by simp), if_neg h]
  have h2 : mNode a 0 key msg = (a, (macS a key msg).2.2, zeroTag) := by unfold mNode; rw [h1]; simp only; rw [mMac_err h]
  rw [nodeS_1 h, h2, if_neg h]
omit W in
theorem ranges_ok (x y : Int) (h1 : ¬ x < 1) (h2 : ¬ 1000 < x) (h3 : ¬ y < 1) (h4 : ¬ 1073741824 < y) (k : Nat) :
  ACall Tryz.prog 105 [.lit (.int .i64 x), .lit (.int .i64 y)] k [] (.lit (.bool true)) [] := by
 have g1 : 1 ≤ x := by omega
 have g2 : x ≤ 1000 := by omega
 have g3 : 1 ≤ y := by omega
 have g4 : y ≤ 1073741824 := by omega
 refine Bd Tryz.func105 Tryz.ntmps105 fun σ N hp hpn hk hkn hfree => ?_
 exact W0
omit W in
theorem ranges_no (x y : Int) (h : x < 1 ∨ 1000 < x ∨ y < 1 ∨ 1073741824 < y) (k : Nat) :
  ACall Tryz.prog 105 [.lit (.int .i64 x), .lit (.int .i64 y)] k [] (.lit (.bool false)) [] := by
 by_cases h1 : x < 1
 ·have g1 : ¬ 1 ≤ x := by omega
  refine Bd Tryz.func105 Tryz.ntmps105 fun σ N hp hpn hk hkn hfree => ?_
  exact W0
 ·have g1 : 1 ≤ x := by omega
  by_cases h2 : 1000 < x
  ·have g2 : ¬ x ≤ 1000 := by omega
   refine Bd Tryz.func105 Tryz.ntmps105 fun σ N hp hpn hk hkn hfree => ?_
   exact W0
  ·have g2 : x ≤ 1000 := by omega
   by_cases h3 : y < 1
   ·have g3 : ¬ 1 ≤ y := by omega
    refine Bd Tryz.func105 Tryz.ntmps105 fun σ N hp hpn hk hkn hfree => ?_
    exact W0
   ·have g3 : 1 ≤ y := by omega
    have g4 : ¬ y ≤ 1073741824 := by omega
    refine Bd Tryz.func105 Tryz.ntmps105 fun σ N hp hpn hk hkn hfree => ?_
    exact W0
theorem mint_err (a : Alg) (num ser : Int) (key : Tg) (h : num < 1 ∨ 1000 < num ∨ ser < 1 ∨ 1073741824 < ser) (g k : Nat) :
  ACall Tryz.prog 98 [algAV a, .agg [.lit (.int .i64 num), tagAV key], .lit (.int .i64 ser)] k [(g, shaG)] (mpAV (mintS a num key ser)) [] := by
 unfold mintS
 rw [if_pos h]
 have c1 := ranges_no num ser h
 unfold mpAV paAV pa0
 simp only [alg0_eq, List.map_nil]
 refine Bd Tryz.func98 Tryz.ntmps98 fun σ N hp hpn hk hkn hfree => ?_
 have hcs := And.intro c1 True.intro
 clear c1
 refine Wk ?_
 exact WD
set_option maxHeartbeats 2000000 in
theorem Mint_spec (a : Alg) (m : Nat) (ha : AlgIn a m) (hm : m ≤ 900000) (num ser : Int) (key : Tg) (g k : Nat) :
  ACall Tryz.prog 98 [algAV a, .agg [.lit (.int .i64 num), tagAV key], .lit (.int .i64 ser)] k [(g, shaG)] (mpAV (mintS a num key ser)) [] := by
 by_cases h : num < 1 ∨ 1000 < num ∨ ser < 1 ∨ 1073741824 < ser
 ·exact mint_err a num ser key h g k
 ·unfold mintS
  rw [if_neg h]
  have h1 : ¬ num < 1 := by omega
  have h2 : ¬ 1000 < num := by omega
  have h3 : ¬ ser < 1 := by omega
  have h4 : ¬ 1073741824 < ser := by omega
  have c0 := ranges_ok num ser h1 h2 h3 h4
  obtain ⟨n, rfl⟩ := Int.eq_ofNat_of_zero_le (show 0 ≤ ser by omega)
  have c1 := mint_spec n (by omega)
  rw [Int.toNat_natCast]
  have hML := mintM_len n (by omega)
  have hM0 : 0 < (mintM n).length := by simp [mintM]
  have cb := Begin_spec a (by have := ha.ml; omega) (by have := ha.bl; omega)
  have c2 := fun d r1 r2 => mNode_spec a m ha hm 0 key (mintM n) (fun _ => hM0) (by omega) d r1 r2 g
  have hbx := mNode_boxes a 0 key (mintM n)
  rw [mNode_node]
  generalize mNode a 0 key (mintM n) = X at *
  obtain ⟨a1, e1', t1⟩ := X
  generalize mintM n = M at *
  simp only at c2 hbx ⊢
  unfold makE at c2
  clear ha h hML hM0
  by_cases he : e1' = 0
  ·subst he
   simp only [if_true]
   unfold mpAV paAV
   simp only [List.map_nil]
   have cd := Done_ok a1
   unfold makAV at cb
   unfold makE at cd
   simp only [makB_def, rowM_eq, rowB_eq, List.cons_append, List.nil_append, hbx] at *
   refine Bd Tryz.func98 Tryz.ntmps98 fun σ N hp hpn hk hkn hfree => ?_
   obtain ⟨hd, hdn⟩ := HD0 hp hpn; clear hp hpn
   have hcs := And.intro c0 (And.intro cb True.intro)
   refine Wm ?_
   iterate 3 refine Wz ?_
   clear hcs
   refine go_cliprowIn (N + 10 + 1) [0, 3] 149 65 (bt := 203) (c := .agg [.agg [.lit (.bool a.free), tagAV a.seed, .lit (.int .i64 a.fresh), .clip (a.macs.map macAV), .clip (a.boxes.map sealAV)], .lit (.int .i64 ((0 : Nat) : Int))]) (xs := a.macs.map macAV) (by simp (disch := omega) [go_sem, *, -List.reduceReplicate]) rfl (all_macs1 _) ?_
   refine go_cliprowIn (N + 10 + 1) [0, 4] 151 35 (bt := 203) (c := .agg [.agg [.lit (.bool a.free), tagAV a.seed, .lit (.int .i64 a.fresh), .slice (some (N + 10 + 3)) (a.macs.map macAV), .clip (a.boxes.map sealAV)], .lit (.int .i64 ((0 : Nat) : Int))]) (xs := a.boxes.map sealAV) (by simp (disch := omega) [go_sem, *, -List.reduceReplicate]) rfl (all_boxes1 _) ?_
   have hcs := And.intro c1 (And.intro (c2 (N + 10 + 1) (N + 10 + 3) (N + 10 + 3 + 1)) (And.intro (cd (N + 10 + 1) (N + 10 + 3) (N + 10 + 3 + 1)) True.intro))
   clear c0 cb c1 c2 cd
   refine Wk ?_
   exact WD
  ·simp only [if_neg he]
   unfold mpAV paAV pa0
   simp only [alg0_eq, List.map_nil]
   have h1i : ((e1' : Int) != 0) = true := by simp; omega
   have cd := Done_bad a1 e1' he
   unfold makAV at cb
   unfold makE at cd
   simp only [makB_def, rowM_eq, rowB_eq, List.cons_append, List.nil_append, hbx, alg0_eq] at *
   refine Bd Tryz.func98 Tryz.ntmps98 fun σ N hp hpn hk hkn hfree => ?_
   obtain ⟨hd, hdn⟩ := HD0 hp hpn; clear hp hpn
   have hcs := And.intro c0 (And.intro cb True.intro)
   refine Wm ?_
   iterate 3 refine Wz ?_
   clear hcs
   refine go_cliprowIn (N + 10 + 1) [0, 3] 149 65 (bt := 203) (c := .agg [.agg [.lit (.bool a.free), tagAV a.seed, .lit (.int .i64 a.fresh), .clip (a.macs.map macAV), .clip (a.boxes.map sealAV)], .lit (.int .i64 ((0 : Nat) : Int))]) (xs := a.macs.map macAV) (by simp (disch := omega) [go_sem, *, -List.reduceReplicate]) rfl (all_macs1 _) ?_
   refine go_cliprowIn (N + 10 + 1) [0, 4] 151 35 (bt := 203) (c := .agg [.agg [.lit (.bool a.free), tagAV a.seed, .lit (.int .i64 a.fresh), .slice (some (N + 10 + 3)) (a.macs.map macAV), .clip (a.boxes.map sealAV)], .lit (.int .i64 ((0 : Nat) : Int))]) (xs := a.boxes.map sealAV) (by simp (disch := omega) [go_sem, *, -List.reduceReplicate]) rfl (all_boxes1 _) ?_
   have hcs := And.intro c1 (And.intro (c2 (N + 10 + 1) (N + 10 + 3) (N + 10 + 3 + 1)) (And.intro (cd (N + 10 + 1) (N + 10 + 3) (N + 10 + 3 + 1)) True.intro))
   clear c0 cb c1 c2 cd
   refine Wk ?_
   exact WD
end

theorem pThirds_spec (l : List Ca) (hl : l.length ≤ 10000) (k : Nat) :
  ACall Tryz.prog 162 [.slice none (l.map caAV)] k [] (.lit (.int .i64 (thirdsS l : Nat))) [] := by
 have c1 := firsts_gen l _ rfl hl
 have h1 := firsts_len l
 have h2 : ((thirdsS l : Nat) : Int) = (l.length : Int) - ((firstsS l).length : Int) := by unfold thirdsS; omega
 rw [h2]
 generalize firstsS l = R at *
 clear h2
 refine Bd Tryz.func162 Tryz.ntmps162 fun σ N hp hpn hk hkn hfree => ?_
 have hcs := And.intro c1 True.intro
 clear c1
 exact W0
theorem ClipC_spec (l : List Ca) (_hl : l.length ≤ 1000000) (k : Nat) :
  ACall Tryz.prog 164 [.slice none (l.map caAV)] k [] (.clip (l.map caAV)) [] := by
 refine Bd Tryz.func164 Tryz.ntmps164 fun σ N hp hpn hk hkn hfree => ?_
 exact W0
theorem bitsG_nbx {t : TypeId} {x : AV} (h : bitsG = .box t x) : False := by unfold bitsG at h; cases h
theorem bitsG_nrw {t : TypeId} {n m : Nat} (h : bitsG = .row t n m) : False := by unfold bitsG at h; cases h
section
variable [W : W32]
def limB (p : Pa) (c : Ca) : Bool := decide (64 ≤ p.cavs.length) || (c.third && decide (8 ≤ thirdsS p.cavs))
def inE (e : Nat) (p : Pa) (c : Ca) : Nat :=
 if (if e = 0 then (encS c).2 else e) = 0 then (if limB p c = true then 2 else 0) else (if e = 0 then (encS c).2 else e)
def intoP (a : Alg) (e : Nat) (p : Pa) (c : Ca) : Alg × Nat × Pa :=
 ((mNode a (inE e p c) p.tag (cavM c)).1, (mNode a (inE e p c) p.tag (cavM c)).2.1, ⟨p.epoch, p.serial, p.cavs ++ [c], (mNode a (inE e p c) p.tag (cavM c)).2.2⟩)
set_option maxHeartbeats 8000000 in
theorem cInto_spec (a : Alg) (m : Nat) (ha : AlgIn a m) (hm : m ≤ 900000) (e : Nat) (p : Pa) (hpl : p.cavs.length ≤ 10000) (hpc : ∀ x ∈ p.cavs, CaSm x) (c : Ca) (hc : CaSm c) (hp0 : PrOk c.first) (q r1 r2 g h k : Nat) :
  ACall Tryz.prog 100 [.ptr q [] 0, paAV p, caAV c] k (makE a e q r1 r2 ++ [(g, shaG), (h, bitsG)]) (paAV (intoP a e p c).2.2) [(q, makB (intoP a e p c).1 (intoP a e p c).2.1 r1 r2), (r1, rowM (intoP a e p c).1.macs.length)] := by
 have c1 := cEnc_spec c hp0 h
 have hM : [99, 97, 118, 101, 97, 116] ++ (encS c).1 = cavM c := rfl
 have hMl := cavM_len c
 have c2 := Message_spec [99, 97, 118, 101, 97, 116] (encS c).1 (by decide) (by unfold cavM at hMl; rw [List.length_append] at hMl; omega)
 rw [hM] at c2
 have hM0 : 0 < (cavM c).length := by simp [cavM]
 have f1 := Fail_spec a e (encS c).2 q r1 r2
 have f2 := Fail_spec a (if e = 0 then (encS c).2 else e) 2 q r1 r2
 have c3 := mNode_spec a m ha hm (inE e p c) p.tag (cavM c) (fun _ => hM0) (by omega) q r1 r2 g
 have hbx := mNode_boxes a (inE e p c) p.tag (cavM c)
 have c4 := pThirds_spec p.cavs hpl
 have c5 := ClipC_spec p.cavs (by omega)
 have c6 := CopiedC_spec (p.cavs ++ [c]) (by rw [List.length_append, List.length_singleton]; omega) (fun x hx => by
  rcases List.mem_append.1 hx with hx | hx
  ·exact hpc x hx
  ·rw [List.mem_singleton.1 hx]; exact hc)
 have hT2 : thirdsS p.cavs ≤ 10000 := by unfold thirdsS; omega
 unfold intoP
 unfold limB at *
 unfold inE limB at *
 generalize (encS c) = X at *
 obtain ⟨B, E⟩ := X
 simp only at *
 generalize cavM c = M at *
 generalize thirdsS p.cavs = T at *
 obtain ⟨ep, se, L, tg⟩ := p
 simp only at *
 have hcc : caAV c = .agg [.lit (.bool c.third), prAV c.first, .lit (.int .i64 c.party), .slice none (c.ticket.map byteAV), .slice none (c.box.map byteAV)] := rfl
 have hpA : paAV ⟨ep, se, L, tg⟩ = .agg [.lit (.int .i64 ep), .lit (.int .i64 se), .slice none (L.map caAV), tagAV tg] := rfl
 rw [hpA]
 unfold encAV at c1
 simp only at c1
 generalize (if e = 0 then E else e) = e1 at *
 have hb : (L.length + 1) * 120 ≤ 140737488355328 := by omega
 have hb0 : L.length * 120 ≤ 140737488355328 := by omega
 have hb1 : L.length ≤ 140737488355327 := by omega
 have e02 : ((2 : Nat) : Int) = 2 := rfl
 clear ha hc hp0 hpc hM hMl hM0 hpA
 by_cases h64 : 64 ≤ L.length
 ·have h64i : (64 : Int) ≤ (L.length : Int) := by omega
  have hlim : (decide (64 ≤ L.length) || (c.third && decide (8 ≤ T))) = true := by rw [decide_eq_true h64]; rfl
  rw [hlim, if_pos rfl] at c3 hbx ⊢
  clear hlim
  generalize (if e1 = 0 then 2 else e1) = e2 at *
  generalize mNode a e2 tg M = Y at *
  obtain ⟨a2, e3, t2⟩ := Y
  simp only at c3 hbx ⊢
  have hpB : paAV ⟨ep, se, L ++ [c], t2⟩ = .agg [.lit (.int .i64 ep), .lit (.int .i64 se), .slice none (L.map caAV ++ [caAV c]), tagAV t2] := by simp [paAV]
  rw [hpB]
  rw [List.map_append, List.map_cons, List.map_nil] at c6
  unfold makE at *
  simp only [List.cons_append, List.nil_append] at *
  simp only [makB_def, rowM_eq, rowB_eq, hbx, e02] at *
  clear hpB hbx hT2
  refine Bd Tryz.func100 Tryz.ntmps100 fun σ N hp hpn hk hkn hfree => ?_
  simp only [List.mem_cons, List.not_mem_nil, or_false, forall_eq_or_imp, forall_eq] at hp hpn
  obtain ⟨hd1, hd2, hd3, hd4, hd5⟩ := hp
  obtain ⟨hdn1, hdn2, hdn3, hdn4, hdn5⟩ := hpn
  have hne : q ≠ r1 := by rintro rfl; rw [hd1] at hd2; cases hd2
  have hne3 : q ≠ r2 := by rintro rfl; rw [hd1] at hd3; cases hd3
  have hneg : g ≠ q := by rintro rfl; rw [hd4] at hd1; exact shaG_nbox hd1
  have hneg1 : g ≠ r1 := by rintro rfl; rw [hd4] at hd2; exact shaG_nrow hd2
  have hneh : h ≠ q := by rintro rfl; rw [hd5] at hd1; exact bitsG_nbx hd1
  have hneh1 : h ≠ r1 := by rintro rfl; rw [hd5] at hd2; exact bitsG_nrw hd2
  have hne23 : r1 ≠ r2 := by rintro rfl; rw [hd2] at hd3; simp at hd3
  have hcs := And.intro c1 (And.intro f1 (And.intro f2 (And.intro c5 (And.intro c6 (And.intro c2 (And.intro c3 (True.intro)))))))
  clear c1 f1 f2 c2 c3 c4 c5 c6
  refine Wk ?_
  refine go_resultW [(q, (.box 203 (.agg [.agg [.lit (.bool a2.free), tagAV a2.seed, .lit (.int .i64 a2.fresh), .slice (some r1) (a2.macs.map macAV), .slice (some r2) (a.boxes.map sealAV)], .lit (.int .i64 (e3 : Int))]))), (r1, (.row 149 65 a2.macs.length))] (by simp (disch := omega) [go_sem, *, -List.reduceReplicate]; rfl) (by first | rfl | (simp (disch := omega) [go_sem]; done) | (simp (disch := omega) [go_sem, *]; done) | simp (disch := omega) [go_sem]) (fun id hid => by simp only [wr_cons, wr_nil]; (by_cases hdd : id = q; (· (subst hdd; simp (disch := omega) [go_sem, *])); (· (by_cases hdd2 : id = r1; (· (subst hdd2; simp (disch := omega) [go_sem, *])); (· (simp (disch := omega) only [upd_ne]; try (first | exact hlow id hid hdd hdd2 | exact hlow id hid))))))) (by simp) (by simp (disch := omega) [go_sem, *])
 ·have h64i : ¬ (64 : Int) ≤ (L.length : Int) := by omega
  by_cases hth : c.third = true
  ·rw [hth] at hcc
   by_cases h8 : 8 ≤ T
   ·have h8i : (8 : Int) ≤ (T : Int) := by omega
    have hlim : (decide (64 ≤ L.length) || (c.third && decide (8 ≤ T))) = true := by rw [hth, decide_eq_true h8]; simp
    rw [hlim, if_pos rfl] at c3 hbx ⊢
    clear hlim hth
    generalize (if e1 = 0 then 2 else e1) = e2 at *
    generalize mNode a e2 tg M = Y at *
    obtain ⟨a2, e3, t2⟩ := Y
    simp only at c3 hbx ⊢
    have hpB : paAV ⟨ep, se, L ++ [c], t2⟩ = .agg [.lit (.int .i64 ep), .lit (.int .i64 se), .slice none (L.map caAV ++ [caAV c]), tagAV t2] := by simp [paAV]
    rw [hpB]
    rw [List.map_append, List.map_cons, List.map_nil] at c6
    unfold makE at *
    simp only [List.cons_append, List.nil_append] at *
    simp only [makB_def, rowM_eq, rowB_eq, hbx, e02] at *
    clear hpB hbx hT2
    refine Bd Tryz.func100 Tryz.ntmps100 fun σ N hp hpn hk hkn hfree => ?_
    simp only [List.mem_cons, List.not_mem_nil, or_false, forall_eq_or_imp, forall_eq] at hp hpn
    obtain ⟨hd1, hd2, hd3, hd4, hd5⟩ := hp
    obtain ⟨hdn1, hdn2, hdn3, hdn4, hdn5⟩ := hpn
    have hne : q ≠ r1 := by rintro rfl; rw [hd1] at hd2; cases hd2
    have hne3 : q ≠ r2 := by rintro rfl; rw [hd1] at hd3; cases hd3
    have hneg : g ≠ q := by rintro rfl; rw [hd4] at hd1; exact shaG_nbox hd1
    have hneg1 : g ≠ r1 := by rintro rfl; rw [hd4] at hd2; exact shaG_nrow hd2
    have hneh : h ≠ q := by rintro rfl; rw [hd5] at hd1; exact bitsG_nbx hd1
    have hneh1 : h ≠ r1 := by rintro rfl; rw [hd5] at hd2; exact bitsG_nrw hd2
    have hne23 : r1 ≠ r2 := by rintro rfl; rw [hd2] at hd3; simp at hd3
    have hcs := And.intro c1 (And.intro f1 (And.intro c4 (And.intro f2 (And.intro c5 (And.intro c6 (And.intro c2 (And.intro c3 (True.intro))))))))
    clear c1 f1 f2 c2 c3 c4 c5 c6
    refine Wk ?_
    refine go_resultW [(q, (.box 203 (.agg [.agg [.lit (.bool a2.free), tagAV a2.seed, .lit (.int .i64 a2.fresh), .slice (some r1) (a2.macs.map macAV), .slice (some r2) (a.boxes.map sealAV)], .lit (.int .i64 (e3 : Int))]))), (r1, (.row 149 65 a2.macs.length))] (by simp (disch := omega) [go_sem, *, -List.reduceReplicate]; rfl) (by first | rfl | (simp (disch := omega) [go_sem]; done) | (simp (disch := omega) [go_sem, *]; done) | simp (disch := omega) [go_sem]) (fun id hid => by simp only [wr_cons, wr_nil]; (by_cases hdd : id = q; (· (subst hdd; simp (disch := omega) [go_sem, *])); (· (by_cases hdd2 : id = r1; (· (subst hdd2; simp (disch := omega) [go_sem, *])); (· (simp (disch := omega) only [upd_ne]; try (first | exact hlow id hid hdd hdd2 | exact hlow id hid))))))) (by simp) (by simp (disch := omega) [go_sem, *])
   ·have h8i : ¬ (8 : Int) ≤ (T : Int) := by omega
    have hlim : (decide (64 ≤ L.length) || (c.third && decide (8 ≤ T))) = false := by rw [decide_eq_false h64, decide_eq_false h8]; simp
    rw [hlim, if_neg (show ¬ (false = true) by simp)] at c3 hbx ⊢
    clear hlim hth
    rw [show (if e1 = 0 then 0 else e1) = e1 by split <;> omega] at c3 hbx ⊢
    generalize mNode a e1 tg M = Y at *
    obtain ⟨a2, e3, t2⟩ := Y
    simp only at c3 hbx ⊢
    have hpB : paAV ⟨ep, se, L ++ [c], t2⟩ = .agg [.lit (.int .i64 ep), .lit (.int .i64 se), .slice none (L.map caAV ++ [caAV c]), tagAV t2] := by simp [paAV]
    rw [hpB]
    rw [List.map_append, List.map_cons, List.map_nil] at c6
    unfold makE at *
    simp only [List.cons_append, List.nil_append] at *
    simp only [makB_def, rowM_eq, rowB_eq, hbx, e02] at *
    clear hpB hbx hT2
    refine Bd Tryz.func100 Tryz.ntmps100 fun σ N hp hpn hk hkn hfree => ?_
    simp only [List.mem_cons, List.not_mem_nil, or_false, forall_eq_or_imp, forall_eq] at hp hpn
    obtain ⟨hd1, hd2, hd3, hd4, hd5⟩ := hp
    obtain ⟨hdn1, hdn2, hdn3, hdn4, hdn5⟩ := hpn
    have hne : q ≠ r1 := by rintro rfl; rw [hd1] at hd2; cases hd2
    have hne3 : q ≠ r2 := by rintro rfl; rw [hd1] at hd3; cases hd3
    have hneg : g ≠ q := by rintro rfl; rw [hd4] at hd1; exact shaG_nbox hd1
    have hneg1 : g ≠ r1 := by rintro rfl; rw [hd4] at hd2; exact shaG_nrow hd2
    have hneh : h ≠ q := by rintro rfl; rw [hd5] at hd1; exact bitsG_nbx hd1
    have hneh1 : h ≠ r1 := by rintro rfl; rw [hd5] at hd2; exact bitsG_nrw hd2
    have hne23 : r1 ≠ r2 := by rintro rfl; rw [hd2] at hd3; simp at hd3
    have hcs := And.intro c1 (And.intro f1 (And.intro c4 (And.intro c5 (And.intro c6 (And.intro c2 (And.intro c3 (True.intro)))))))
    clear c1 f1 f2 c2 c3 c4 c5 c6
    refine Wk ?_
    refine go_resultW [(q, (.box 203 (.agg [.agg [.lit (.bool a2.free), tagAV a2.seed, .lit (.int .i64 a2.fresh), .slice (some r1) (a2.macs.map macAV), .slice (some r2) (a.boxes.map sealAV)], .lit (.int .i64 (e3 : Int))]))), (r1, (.row 149 65 a2.macs.length))] (by simp (disch := omega) [go_sem, *, -List.reduceReplicate]; rfl) (by first | rfl | (simp (disch := omega) [go_sem]; done) | (simp (disch := omega) [go_sem, *]; done) | simp (disch := omega) [go_sem]) (fun id hid => by simp only [wr_cons, wr_nil]; (by_cases hdd : id = q; (· (subst hdd; simp (disch := omega) [go_sem, *])); (· (by_cases hdd2 : id = r1; (· (subst hdd2; simp (disch := omega) [go_sem, *])); (· (simp (disch := omega) only [upd_ne]; try (first | exact hlow id hid hdd hdd2 | exact hlow id hid))))))) (by simp) (by simp (disch := omega) [go_sem, *])
  ·have hth : c.third = false := by simpa using hth
   rw [hth] at hcc
   have hlim : (decide (64 ≤ L.length) || (c.third && decide (8 ≤ T))) = false := by rw [decide_eq_false h64, hth]; simp
   rw [hlim, if_neg (show ¬ (false = true) by simp)] at c3 hbx ⊢
   clear hlim hth
   rw [show (if e1 = 0 then 0 else e1) = e1 by split <;> omega] at c3 hbx ⊢
   generalize mNode a e1 tg M = Y at *
   obtain ⟨a2, e3, t2⟩ := Y
   simp only at c3 hbx ⊢
   have hpB : paAV ⟨ep, se, L ++ [c], t2⟩ = .agg [.lit (.int .i64 ep), .lit (.int .i64 se), .slice none (L.map caAV ++ [caAV c]), tagAV t2] := by simp [paAV]
   rw [hpB]
   rw [List.map_append, List.map_cons, List.map_nil] at c6
   unfold makE at *
   simp only [List.cons_append, List.nil_append] at *
   simp only [makB_def, rowM_eq, rowB_eq, hbx, e02] at *
   clear hpB hbx hT2
   refine Bd Tryz.func100 Tryz.ntmps100 fun σ N hp hpn hk hkn hfree => ?_
   simp only [List.mem_cons, List.not_mem_nil, or_false, forall_eq_or_imp, forall_eq] at hp hpn
   obtain ⟨hd1, hd2, hd3, hd4, hd5⟩ := hp
   obtain ⟨hdn1, hdn2, hdn3, hdn4, hdn5⟩ := hpn
   have hne : q ≠ r1 := by rintro rfl; rw [hd1] at hd2; cases hd2
   have hne3 : q ≠ r2 := by rintro rfl; rw [hd1] at hd3; cases hd3
   have hneg : g ≠ q := by rintro rfl; rw [hd4] at hd1; exact shaG_nbox hd1
   have hneg1 : g ≠ r1 := by rintro rfl; rw [hd4] at hd2; exact shaG_nrow hd2
   have hneh : h ≠ q := by rintro rfl; rw [hd5] at hd1; exact bitsG_nbx hd1
   have hneh1 : h ≠ r1 := by rintro rfl; rw [hd5] at hd2; exact bitsG_nrw hd2
   have hne23 : r1 ≠ r2 := by rintro rfl; rw [hd2] at hd3; simp at hd3
   have hcs := And.intro c1 (And.intro f1 (And.intro c5 (And.intro c6 (And.intro c2 (And.intro c3 (True.intro))))))
   clear c1 f1 f2 c2 c3 c4 c5 c6
   refine Wk ?_
   refine go_resultW [(q, (.box 203 (.agg [.agg [.lit (.bool a2.free), tagAV a2.seed, .lit (.int .i64 a2.fresh), .slice (some r1) (a2.macs.map macAV), .slice (some r2) (a.boxes.map sealAV)], .lit (.int .i64 (e3 : Int))]))), (r1, (.row 149 65 a2.macs.length))] (by simp (disch := omega) [go_sem, *, -List.reduceReplicate]; rfl) (by first | rfl | (simp (disch := omega) [go_sem]; done) | (simp (disch := omega) [go_sem, *]; done) | simp (disch := omega) [go_sem]) (fun id hid => by simp only [wr_cons, wr_nil]; (by_cases hdd : id = q; (· (subst hdd; simp (disch := omega) [go_sem, *])); (· (by_cases hdd2 : id = r1; (· (subst hdd2; simp (disch := omega) [go_sem, *])); (· (simp (disch := omega) only [upd_ne]; try (first | exact hlow id hid hdd hdd2 | exact hlow id hid))))))) (by simp) (by simp (disch := omega) [go_sem, *])
theorem attS_into (a : Alg) (p : Pa) (c : Ca) : attS a p c = if (intoP a 0 p c).2.1 = 0 then ((intoP a 0 p c).1, (intoP a 0 p c).2.2, 0) else (alg0, pa0, (intoP a 0 p c).2.1) := by
 unfold attS intoP inE
 simp only [if_true]
 cases hc : cavB c with
 | false =>
  have he : (encS c).2 = 5 := by unfold encS; rw [hc]; rfl
  have hm : ∀ t msg, mNode a 5 t msg = (a, 5, zeroTag) := fun t msg => by
   have h5 : (5 : Nat) ≠ 0 := by omega
   unfold mNode; simp only [mMac_err h5]
  rw [if_pos rfl, he, if_neg (show ¬ (5 : Nat) = 0 by omega), hm, if_neg (show ¬ (5 : Nat) = 0 by omega)]
 | true =>
  have he : (encS c).2 = 0 := by unfold encS; rw [hc]; rfl
  rw [if_neg (by simp), he, if_pos rfl]
  by_cases hl : 64 ≤ p.cavs.length ∨ (c.third = true ∧ 8 ≤ thirdsS p.cavs)
  ·have hb : limB p c = true := by
    unfold limB
    rcases hl with h | ⟨h, h'⟩
    ·rw [decide_eq_true h]; rfl
    ·rw [h, decide_eq_true h']; simp
   have hm : ∀ t msg, mNode a 2 t msg = (a, 2, zeroTag) := fun t msg => by
    have h5 : (2 : Nat) ≠ 0 := by omega
    unfold mNode; simp only [mMac_err h5]
   rw [if_pos hl, if_pos hb, hm, if_neg (show ¬ (2 : Nat) = 0 by omega)]
  ·have hb : limB p c = false := by
    unfold limB
    cases hh : (decide (64 ≤ p.cavs.length) || (c.third && decide (8 ≤ thirdsS p.cavs))) with
    | false => rfl
    | true =>
     refine absurd ?_ hl
     simpa using hh
   rw [if_neg hl, hb, if_neg (show ¬ (false = true) by simp), mNode_node]
   by_cases h : (mNode a 0 p.tag (cavM c)).2.1 = 0
   ·simp only [if_pos h, if_true]
   ·simp only [if_neg h]
set_option maxHeartbeats 4000000 in
theorem Att_spec (a : Alg) (m : Nat) (ha : AlgIn a m) (hm : m ≤ 900000) (p : Pa) (hpl : p.cavs.length ≤ 10000) (hpc : ∀ x ∈ p.cavs, CaSm x) (c : Ca) (hc : CaSm c) (hp0 : PrOk c.first) (g h : Nat) (_hgh : g ≠ h) (k : Nat) :
  ACall Tryz.prog 36 [algAV a, paAV p, caAV c] k [(g, shaG), (h, bitsG)] (mpAV (attS a p c)) [] := by
 have cb := Begin_spec a (by have := ha.ml; omega) (by have := ha.bl; omega)
 have c1 := fun q r1 r2 => cInto_spec a m ha hm 0 p hpl hpc c hc hp0 q r1 r2 g h
 have hbx : (intoP a 0 p c).1.boxes = a.boxes := mNode_boxes _ _ _ _
 rw [attS_into]
 generalize intoP a 0 p c = X at *
 obtain ⟨a1, e1, p1⟩ := X
 simp only at c1 hbx ⊢
 clear ha hpl hpc hc hp0
 by_cases he : e1 = 0
 ·subst he
  rw [if_pos rfl]
  unfold mpAV
  simp only
  have cd := Done_ok a1
  unfold makAV at cb
  unfold makE at c1 cd
  simp only [List.cons_append, List.nil_append] at *
  simp only [makB_def, rowM_eq, rowB_eq, hbx] at *
  refine Bd Tryz.func36 Tryz.ntmps36 fun σ N hp hpn hk hkn hfree => ?_
  simp only [List.mem_cons, List.not_mem_nil, or_false, forall_eq_or_imp, forall_eq] at hp hpn; obtain ⟨hd1, hd2⟩ := hp; obtain ⟨hdn1, hdn2⟩ := hpn
  have hcs := And.intro cb True.intro
  refine Wm ?_
  iterate 2 refine Wz ?_
  clear hcs
  refine go_cliprowIn (N + 6 + 1) [0, 3] 149 65 (bt := 203) (c := .agg [.agg [.lit (.bool a.free), tagAV a.seed, .lit (.int .i64 a.fresh), .clip (a.macs.map macAV), .clip (a.boxes.map sealAV)], .lit (.int .i64 ((0 : Nat) : Int))]) (xs := a.macs.map macAV) (by simp (disch := omega) [go_sem, *, -List.reduceReplicate]) rfl (all_macs1 _) ?_; refine go_cliprowIn (N + 6 + 1) [0, 4] 151 35 (bt := 203) (c := .agg [.agg [.lit (.bool a.free), tagAV a.seed, .lit (.int .i64 a.fresh), .slice (some (N + 6 + 3)) (a.macs.map macAV), .clip (a.boxes.map sealAV)], .lit (.int .i64 ((0 : Nat) : Int))]) (xs := a.boxes.map sealAV) (by simp (disch := omega) [go_sem, *, -List.reduceReplicate]) rfl (all_boxes1 _) ?_
  have hcs := And.intro (c1 (N + 6 + 1) (N + 6 + 3) (N + 6 + 3 + 1)) (And.intro (cd (N + 6 + 1) (N + 6 + 3) (N + 6 + 3 + 1)) True.intro)
  clear cb c1 cd
  refine Wk ?_
  exact WD
 ·rw [if_neg he]
  unfold mpAV paAV pa0
  simp only [alg0_eq, List.map_nil]
  have h1i : ((e1 : Int) != 0) = true := by simp; omega
  have cd := Done_bad a1 e1 he
  unfold makAV at cb
  unfold makE at c1 cd
  simp only [List.cons_append, List.nil_append] at *
  simp only [makB_def, rowM_eq, rowB_eq, hbx, alg0_eq] at *
  refine Bd Tryz.func36 Tryz.ntmps36 fun σ N hp hpn hk hkn hfree => ?_
  simp only [List.mem_cons, List.not_mem_nil, or_false, forall_eq_or_imp, forall_eq] at hp hpn; obtain ⟨hd1, hd2⟩ := hp; obtain ⟨hdn1, hdn2⟩ := hpn
  have hcs := And.intro cb True.intro
  refine Wm ?_
  iterate 2 refine Wz ?_
  clear hcs
  refine go_cliprowIn (N + 6 + 1) [0, 3] 149 65 (bt := 203) (c := .agg [.agg [.lit (.bool a.free), tagAV a.seed, .lit (.int .i64 a.fresh), .clip (a.macs.map macAV), .clip (a.boxes.map sealAV)], .lit (.int .i64 ((0 : Nat) : Int))]) (xs := a.macs.map macAV) (by simp (disch := omega) [go_sem, *, -List.reduceReplicate]) rfl (all_macs1 _) ?_; refine go_cliprowIn (N + 6 + 1) [0, 4] 151 35 (bt := 203) (c := .agg [.agg [.lit (.bool a.free), tagAV a.seed, .lit (.int .i64 a.fresh), .slice (some (N + 6 + 3)) (a.macs.map macAV), .clip (a.boxes.map sealAV)], .lit (.int .i64 ((0 : Nat) : Int))]) (xs := a.boxes.map sealAV) (by simp (disch := omega) [go_sem, *, -List.reduceReplicate]) rfl (all_boxes1 _) ?_
  have hcs := And.intro (c1 (N + 6 + 1) (N + 6 + 3) (N + 6 + 3 + 1)) (And.intro (cd (N + 6 + 1) (N + 6 + 3) (N + 6 + 3 + 1)) True.intro)
  clear cb c1 cd
  refine Wk ?_
  exact WD
end

section
variable [W : W32]
theorem refLook_spec (a : Alg) (key : Tg) (msg : List UInt8) (hl : a.macs.length ≤ 1000000) (hm : ∀ e ∈ a.macs, e.msg.length ≤ 100000) (k : Nat) :
  ACall Tryz.prog 94 [algAV a, tagAV key, .slice none (msg.map byteAV)] k [] (entAV (lookO a key msg)) [] := by
 have c1 := entry_spec a key msg hl hm
 obtain ⟨fr, sd, fs, L, B⟩ := a
 simp only at hl hm c1
 unfold lookO
 cases fr with
 | true =>
  simp only [if_true]
  generalize entL key msg L = R at *
  unfold entAV at *
  simp only [algAV] at *
  clear hm
  refine Bd Tryz.func94 Tryz.ntmps94 fun σ N hp hpn hk hkn hfree => ?_
  have hcs := And.intro c1 True.intro
  clear c1
  exact W0
 | false =>
  simp only [Bool.false_eq_true, if_false]
  clear c1 hm
  by_cases h1 : 4096 < msg.length
  ·rw [if_pos h1]
   have h1i : (4096 : Int) < (msg.length : Int) := by omega
   unfold entAV
   simp only [Option.getD_none, Option.isSome_none, algAV]
   refine Bd Tryz.func94 Tryz.ntmps94 fun σ N hp hpn hk hkn hfree => ?_
   exact W0
  ·rw [if_neg h1]
   have h1i : ¬ (4096 : Int) < (msg.length : Int) := by omega
   have c2 := Hmac_spec key.1 msg (by rw [key.2]; decide) (by omega)
   generalize hmacT key.1 msg = t at *
   have hs1 := tagAV_sz key
   have hs2 := tagAV_cell key
   obtain ⟨K, hK⟩ := key
   have hkA : tagAV ⟨K, hK⟩ = .agg (K.map byteAV) := rfl
   simp only [hkA] at hs1 hs2 c2 ⊢
   clear hkA
   have hs3 : AV.celll (K.map byteAV) = true := celll_bytes K
   have htk : (K.map byteAV).take 32 = K.map byteAV := List.take_of_length_le (by rw [List.length_map]; omega)
   unfold entAV
   simp only [Option.getD_some, Option.isSome_some, algAV]
   refine Bd Tryz.func94 Tryz.ntmps94 fun σ N hp hpn hk hkn hfree => ?_
   have hcs := And.intro c2 True.intro
   clear c2
   exact W0
end

def ridesC (n : Int) : Ca := firC ⟨7, 0, 0, 0, [], n⟩
theorem ridesC_eq (n : Int) : caAV (ridesC n) = .agg [.lit (.bool false), .agg [.lit (.int .i64 7), .lit (.int .u64 0), .lit (.int .i64 0), .lit (.int .i64 0), .lit (.string ⟨#[]⟩), .lit (.int .i64 n)], .lit (.int .i64 0), .slice none [], .slice none []] := rfl
theorem rides13_spec (n : Int) (k : Nat) : ACall Tryz.prog 34 [.lit (.int .i64 n)] k [] (caAV (ridesC n)) [] := by
 rw [ridesC_eq]
 refine Bd Tryz.func34 Tryz.ntmps34 fun σ N hp hpn hk hkn hfree => ?_
 refine Wk ?_
 refine go_resultI (by simp (disch := omega) [go_sem, *, -List.reduceReplicate]; rfl) (AV.sub_agg (by repeat' first | exact ALe.nil | exact AV.le_refl _ | apply ALe.cons | ((first | apply AV.le_slices | apply AV.le_nilsE | apply AV.le_clipE); first | rfl | (simp (disch := omega) [go_sem, *, -List.reduceReplicate]; done)))) (by simp (disch := omega) [go_sem, -List.reduceReplicate]; try rfl) (fun id hid => by simp (disch := omega) only [upd_ne]; try exact hlow id hid)
section
variable [W : W32]
def aF : Alg := ⟨true, zeroTag, 0, [], []⟩
omit W in
theorem aF_eq : algAV aF = .agg [.lit (.bool true), tagAV zeroTag, .lit (.int .i64 0), .slice none [], .slice none []] := rfl
omit W in
theorem aF_in : AlgIn aF 0 := ⟨by simp [aF], by simp [aF], by simp [aF], by simp [aF], fun e he => by simp [aF] at he, fun e he => by simp [aF] at he⟩
omit W in
theorem entL_none {k : Tg} {m : List UInt8} : ∀ {L : List MacE}, (∀ e ∈ L, ¬ (e.key = k ∧ e.msg = m)) → entL k m L = none
 | [], _ => rfl
 | e :: r, h => by
  rw [entL, if_neg (h e (List.mem_cons_self ..))]
  exact entL_none fun x hx => h x (List.mem_cons_of_mem _ hx)
def L2 : List MacE := [⟨zeroTag, mintM 1, symT 109 1⟩, ⟨symT 109 1, nodeB, symT 109 2⟩]
def L4 (c : Ca) : List MacE := L2 ++ [⟨symT 109 1, cavM c, symT 109 3⟩, ⟨symT 109 3, nodeB, symT 109 4⟩]
omit W in
theorem mint_nnode : mintM 1 ≠ nodeB := by intro h; have := congrArg List.head? h; simp [mintM, nodeB] at this
omit W in
theorem mint_ncav (c : Ca) : mintM 1 ≠ cavM c := by intro h; have := congrArg List.head? h; simp [mintM, cavM] at this
omit W in
theorem node_ncav (c : Ca) : nodeB ≠ cavM c := by intro h; have := congrArg List.head? h; simp [nodeB, cavM] at this
theorem aw_mint : mintS aF 1 zeroTag 1 = (⟨true, zeroTag, 0, L2, []⟩, ⟨1, 1, [], symT 109 1⟩, 0) := by
 have hl := mintM_len 1 (by omega)
 have h1 : macS aF zeroTag (mintM 1) = (⟨true, zeroTag, 0, [⟨zeroTag, mintM 1, symT 109 1⟩], []⟩, symT 109 1, 0) := by
  rw [macS_new (by omega) rfl (by decide)]; rfl
 have h2 : macS ⟨true, zeroTag, 0, [⟨zeroTag, mintM 1, symT 109 1⟩], []⟩ (symT 109 1) nodeB = (⟨true, zeroTag, 0, L2, []⟩, symT 109 2, 0) := by
  rw [macS_new (by decide) (entL_none fun e he => ?_) (by decide)]; rfl
  rw [List.mem_singleton.1 he]
  exact fun h => mint_nnode h.2
 unfold mintS
 rw [if_neg (by omega)]
 have h3 := nodeS_3 (a := aF) (key := zeroTag) (msg := mintM 1) (by rw [h1]) (by rw [h1]; simp only; rw [h2])
 rw [h1] at h3
 simp only at h3
 rw [h2] at h3
 rw [show (1 : Int).toNat = 1 from rfl, h3, if_pos rfl]
theorem aw_att : attS ⟨true, zeroTag, 0, L2, []⟩ ⟨1, 1, [], symT 109 1⟩ (ridesC 3) = (⟨true, zeroTag, 0, L4 (ridesC 3), []⟩, ⟨1, 1, [ridesC 3], symT 109 3⟩, 0) := by
 have hl := cavM_len (ridesC 3)
 have h1 : macS ⟨true, zeroTag, 0, L2, []⟩ (symT 109 1) (cavM (ridesC 3)) = (⟨true, zeroTag, 0, L2 ++ [⟨symT 109 1, cavM (ridesC 3), symT 109 3⟩], []⟩, symT 109 3, 0) := by
  rw [macS_new (by omega) (entL_none fun e he => ?_) (by decide)]; rfl
  simp only [L2, List.mem_cons, List.not_mem_nil, or_false] at he
  rcases he with rfl | rfl
  ·exact fun h => mint_ncav _ h.2
  ·exact fun h => node_ncav _ h.2
 have h2 : macS ⟨true, zeroTag, 0, L2 ++ [⟨symT 109 1, cavM (ridesC 3), symT 109 3⟩], []⟩ (symT 109 3) nodeB = (⟨true, zeroTag, 0, L4 (ridesC 3), []⟩, symT 109 4, 0) := by
  rw [macS_new (by decide) (entL_none fun e he => ?_) (by decide)]; rfl
  simp only [L2, List.cons_append, List.nil_append, List.mem_cons, List.not_mem_nil, or_false] at he
  rcases he with rfl | rfl | rfl
  ·exact fun h => mint_nnode h.2
  ·exact fun h => by have := symT_inj (by omega) (by omega) (by omega) (by omega) h.1; omega
  ·exact fun h => node_ncav _ h.2.symm
 have h3 := nodeS_3 (a := ⟨true, zeroTag, 0, L2, []⟩) (key := symT 109 1) (msg := cavM (ridesC 3)) (by rw [h1]) (by rw [h1]; simp only; rw [h2])
 rw [h1] at h3
 simp only at h3
 rw [h2] at h3
 unfold attS
 rw [if_neg (by decide), if_neg (by decide), h3, if_pos rfl]
 rfl
set_option maxHeartbeats 1000000 in
theorem awake13_spec (g h : Nat) (hgh : g ≠ h) (k : Nat) : ACall Tryz.prog 33 [] k [(g, shaG), (h, bitsG)] (.lit (.bool true)) [] := by
 have c1 := Mint_spec aF 0 aF_in (by decide) 1 1 zeroTag g
 rw [aw_mint] at c1
 have c2 := rides13_spec 3
 have hin : AlgIn ⟨true, zeroTag, 0, L2, []⟩ 2 := by have := mintS_in aF_in 1 zeroTag 1; rw [aw_mint] at this; exact this
 have c3 := Att_spec _ 2 hin (by decide) ⟨1, 1, [], symT 109 1⟩ (by simp) (fun x hx => by cases hx) (ridesC 3) ⟨by simp [ridesC, firC], by simp [ridesC, firC]⟩ ⟨by decide, by decide, by decide⟩ g h hgh
 rw [aw_att] at c3
 have c4 := pSymbol_spec 109 1 (by decide)
 have c5 := pSymbol_spec 109 3 (by decide)
 have e1 : ((109 : UInt8).toNat : Int) = 109 := rfl
 have e2 : ((1 : Nat) : Int) = 1 := rfl
 have e3 : ((3 : Nat) : Int) = 3 := rfl
 have e0 : ((0 : Nat) : Int) = 0 := rfl
 rw [e1, e2] at c4
 rw [e1, e3] at c5
 unfold mpAV at c1 c3
 have hp1 : paAV ⟨1, 1, [], symT 109 1⟩ = .agg [.lit (.int .i64 1), .lit (.int .i64 1), .slice none [], tagAV (symT 109 1)] := rfl
 have hp2 : paAV ⟨1, 1, [ridesC 3], symT 109 3⟩ = .agg [.lit (.int .i64 1), .lit (.int .i64 1), .slice none [caAV (ridesC 3)], tagAV (symT 109 3)] := rfl
 have ha2 : algAV ⟨true, zeroTag, 0, L4 (ridesC 3), []⟩ = .agg [.lit (.bool true), tagAV zeroTag, .lit (.int .i64 0), .slice none ((L4 (ridesC 3)).map macAV), .slice none []] := rfl
 have hL : ((L4 (ridesC 3)).map macAV).length = 4 := rfl
 simp only [e0, hp1, hp2, aF_eq, ha2] at c1 c3
 generalize (L4 (ridesC 3)).map macAV = M4 at *
 generalize ridesC 3 = C3 at *
 generalize symT 109 1 = s1 at *
 generalize symT 109 3 = s3 at *
 generalize (⟨true, zeroTag, 0, L2, []⟩ : Alg) = A2 at *
 clear hin e0 e1 e2 e3 hp1 hp2 ha2
 refine Bd Tryz.func33 Tryz.ntmps33 fun σ N hp hpn hk hkn hfree => ?_
 simp only [List.mem_cons, List.not_mem_nil, or_false, forall_eq_or_imp, forall_eq] at hp hpn; obtain ⟨hd1, hd2⟩ := hp; obtain ⟨hdn1, hdn2⟩ := hpn
 have hcs := And.intro c1 (And.intro c2 (And.intro c3 (And.intro c4 (And.intro c5 True.intro))))
 clear c1 c2 c3 c4 c5
 exact W0
end

section
variable [W : W32]
def walkA (a : Alg) : List Tg → Tg → List (List UInt8) → Option (List Tg)
 | acc, _, [] => some acc
 | acc, k, m :: r => match lookO a k m with
  | none => none
  | some t => walkA a (acc ++ [t]) t r
def nodesA (a : Alg) : List Tg → List Tg → Option (List Tg)
 | acc, [] => some acc
 | acc, k :: r => match lookO a k nodeB with
  | none => none
  | some t => nodesA a (acc ++ [t]) r
def msgsL (ser : Int) (l : List Ca) : List (List UInt8) := mintM ser.toNat :: l.map cavM
def orTag : Option (List Tg) → List Tg × Nat
 | none => ([], 19)
 | some ts => (ts, 0)
def tagsS (a : Alg) (num : Int) (key : Tg) (ser : Int) (l : List Ca) : List Tg × Nat :=
 if num < 1 ∨ 1000 < num ∨ ser < 1 ∨ 1073741824 < ser then ([], 1) else if (l.any fun c => !cavB c) = true then ([], 5) else orTag (walkA a [] key (msgsL ser l))
def nodesS (a : Alg) (l : List Tg) : List Tg × Nat := orTag (nodesA a [] l)
omit W in
def tsAV (r : List Tg × Nat) : AV := .tup [.slice none (r.1.map tagAV), .lit (.int .i64 (r.2 : Nat))]
theorem walkA_len (a : Alg) : ∀ (L : List (List UInt8)) (acc : List Tg) (k : Tg) (R : List Tg), walkA a acc k L = some R → R.length = acc.length + L.length
 | [], acc, k, R, h => by simp only [walkA, Option.some.injEq] at h; subst h; rfl
 | m :: r, acc, k, R, h => by
  rw [walkA] at h
  split at h
  ·cases h
  ·have := walkA_len a r _ _ _ h
   simp at this ⊢; omega
theorem nodesA_len (a : Alg) : ∀ (L : List Tg) (acc : List Tg) (R : List Tg), nodesA a acc L = some R → R.length = acc.length + L.length
 | [], acc, R, h => by simp only [nodesA, Option.some.injEq] at h; subst h; rfl
 | m :: r, acc, R, h => by
  rw [nodesA] at h
  split at h
  ·cases h
  ·have := nodesA_len a r _ _ h
   simp at this ⊢; omega
theorem tagsS_len (a : Alg) (num : Int) (key : Tg) (ser : Int) (l : List Ca) : (tagsS a num key ser l).1.length ≤ l.length + 1 := by
 unfold tagsS
 split
 ·simp
 ·split
  ·simp
  ·cases h : walkA a [] key (msgsL ser l) with
   | none => simp [orTag]
   | some R =>
    have := walkA_len a _ _ _ _ h
    simp [orTag, msgsL] at this ⊢; omega
theorem nodesS_len (a : Alg) (l : List Tg) : (nodesS a l).1.length ≤ l.length := by
 unfold nodesS
 cases h : nodesA a [] l with
 | none => simp [orTag]
 | some R =>
  have := nodesA_len a _ _ _ h
  simp [orTag] at this ⊢; omega
end

section
variable [W : W32]
end

section
variable [W : W32]
theorem Look_spec (a : Alg) (key : Tg) (msg : List UInt8) (hl : a.macs.length ≤ 1000000) (hm : ∀ e ∈ a.macs, e.msg.length ≤ 100000) (h0 : 0 < msg.length) (hmsg : msg.length ≤ 1000000) (g k : Nat) :
  ACall Tryz.prog 66 [algAV a, tagAV key, .slice none (msg.map byteAV)] k [(g, shaG)] (entAV (lookO a key msg)) [] := by
 have c1 := find_spec a.macs key msg hl hm hmsg
 obtain ⟨fr, sd, fs, L, B⟩ := a
 simp only at hl hm c1
 unfold lookO
 cases fr with
 | true =>
  simp only [if_true]
  cases he : entL key msg L with
  | none =>
   rw [fI_none L 0 he] at c1
   unfold entAV
   simp only [Option.getD_none, Option.isSome_none, algAV]
   clear hm he
   refine Bd Tryz.func66 Tryz.ntmps66 fun σ N hp hpn hk hkn hfree => ?_
   obtain ⟨hd, hdn⟩ := HD0 hp hpn; clear hp hpn
   have hcs := And.intro c1 True.intro
   clear c1
   exact W0
  | some t =>
   obtain ⟨i, hi, hfi, hti⟩ := fI_some L 0 he
   rw [hfi, Nat.zero_add] at c1
   obtain ⟨z, hz⟩ : ∃ z, L[i] = z := ⟨_, rfl⟩
   rw [hz] at hti
   obtain ⟨zk, zm, zt⟩ := z
   simp only at hti
   subst hti
   have hzd : macAV ⟨zk, zm, zt⟩ = .agg [tagAV zk, bAV zm, tagAV zt] := rfl
   have hi0 : ¬ (i : Int) < 0 := by omega
   unfold entAV
   simp only [Option.getD_some, Option.isSome_some, algAV]
   clear hm he hfi
   refine Bd Tryz.func66 Tryz.ntmps66 fun σ N hp hpn hk hkn hfree => ?_
   obtain ⟨hd, hdn⟩ := HD0 hp hpn; clear hp hpn
   have hcs := And.intro c1 True.intro
   clear c1
   exact W0
 | false =>
  simp only [Bool.false_eq_true, if_false]
  clear c1 hm
  by_cases h1 : 4096 < msg.length
  ·rw [if_pos h1]
   have h1i : (4096 : Int) < (msg.length : Int) := by omega
   unfold entAV
   simp only [Option.getD_none, Option.isSome_none, algAV]
   refine Bd Tryz.func66 Tryz.ntmps66 fun σ N hp hpn hk hkn hfree => ?_
   obtain ⟨hd, hdn⟩ := HD0 hp hpn; clear hp hpn
   exact W0
  ·rw [if_neg h1]
   have h1i : ¬ (4096 : Int) < (msg.length : Int) := by omega
   have c2 := hmacOf_spec key.1 msg (by rw [key.2]; decide) h0 (by omega) g
   generalize hmacT key.1 msg = t at *
   have hs1 := tagAV_sz key
   have hs2 := tagAV_cell key
   obtain ⟨K, hK⟩ := key
   have hkA : tagAV ⟨K, hK⟩ = .agg (K.map byteAV) := rfl
   simp only [hkA] at hs1 hs2 c2 ⊢
   clear hkA
   have hs3 : AV.celll (K.map byteAV) = true := celll_bytes K
   have htk : (K.map byteAV).take 32 = K.map byteAV := List.take_of_length_le (by rw [List.length_map]; omega)
   unfold entAV
   simp only [Option.getD_some, Option.isSome_some, algAV]
   refine Bd Tryz.func66 Tryz.ntmps66 fun σ N hp hpn hk hkn hfree => ?_
   obtain ⟨hd, hdn⟩ := HD0 hp hpn; clear hp hpn
   have hcs := And.intro c2 True.intro
   clear c2
   exact W0
end

section
variable [W : W32]
theorem walkA_acc (a : Alg) (acc' : List Tg) : ∀ (L : List (List UInt8)) (acc : List Tg) (k : Tg), walkA a (acc' ++ acc) k L = (walkA a acc k L).map (acc' ++ ·)
 | [], acc, k => rfl
 | m :: r, acc, k => by
  rw [walkA, walkA]
  cases lookO a k m with
  | none => rfl
  | some t => simp only; rw [List.append_assoc, walkA_acc a acc' r]
omit W in
def wkAV (R : Option (List Tg)) : AV := .tup [.slice none ((R.getD []).map tagAV), .lit (.bool R.isSome)]
theorem Tags1_spec (a : Alg) (m : Nat) (ha : AlgIn a m) (hm : m ≤ 900000) (key : Tg) (msg : List UInt8) (h0 : 0 < msg.length) (hmsg : msg.length ≤ 100000) (b g k : Nat) :
  ACall Tryz.prog 109 [tagAV key, .slice none (msg.map byteAV), .ptr b [] 0] k [(b, .box 38 (algAV a)), (g, shaG)] (entAV (lookO a key msg)) [] := by
 have c1 := Look_spec a key msg (by have := ha.ml; omega) ha.mm h0 (by omega) g
 generalize lookO a key msg = o at *
 unfold entAV at *
 generalize o.getD zeroTag = t at *
 generalize o.isSome = ok at *
 clear ha
 refine Bd Tryz.func109 Tryz.ntmps109 fun σ N hp hpn hk hkn hfree => ?_
 simp only [List.mem_cons, List.not_mem_nil, or_false, forall_eq_or_imp, forall_eq] at hp hpn; obtain ⟨hd1, hd2⟩ := hp; obtain ⟨hdn1, hdn2⟩ := hpn
 have hcs := And.intro c1 True.intro
 clear c1
 exact W0
set_option maxHeartbeats 2000000 in
theorem walk_spec (a : Alg) (m : Nat) (ha : AlgIn a m) (hm : m ≤ 900000) (key : Tg) (L : List (List UInt8)) (hL : L.length ≤ 100000) (hl : ∀ x ∈ L, 0 < x.length ∧ x.length ≤ 100000) (b g k : Nat) :
  ACall Tryz.prog 108 [tagAV key, .slice none (L.map bAV), .fn 109 [.ptr b [] 0]] k [(b, .box 38 (algAV a)), (g, shaG)] (wkAV (walkA a [key] key L)) [] := by
 obtain ⟨R, hR⟩ : ∃ R, walkA a [key] key L = R := ⟨_, rfl⟩
 rw [hR]
 unfold wkAV
 refine Bd Tryz.func108 Tryz.ntmps108 fun σ N hp hpn hk hkn hfree => ?_
 simp only [List.mem_cons, List.not_mem_nil, or_false, forall_eq_or_imp, forall_eq] at hp hpn; obtain ⟨hd1, hd2⟩ := hp; obtain ⟨hdn1, hdn2⟩ := hpn
 refine Wk ?_
 refine go_loopF mixed (by kernel_rfl) [6, 7, 8, 10, 11, 12, 17, 18, 19, 20, 21, 22, 23, 24, 25, 26, 27, 28, 29, 30, 31, 32, 33, 34, 35, 36, 37, 38, 39] [N+4] (fun m_ s_ σ_ n_ => ∃ (u : Nat) (t : Tg) (acc : List Tg), m_ = L.length - u ∧ s_ 17 = .lit (.int .i64 u) ∧ s_ 8 = .slice (some (N + 4)) (acc.map tagAV) ∧ σ_ (N+4) = .row 29 32 acc.length ∧ (u ≤ L.length) ∧ (acc.length = u + 1) ∧ ((acc.map tagAV)[u]? = some (tagAV t)) ∧ (walkA a acc t (L.drop u) = R)) ⟨_, 0, key, [key], rfl, WF, WF, WF, WC, WC, WC, WC⟩ ?_
 intro m_1 s_1 σ_1 n_1 hs_1 hf_1 hn_1 hI_1
 obtain ⟨u, t, acc, hm_1, h1_17, h1_8, e1_0, hu, hal, hat, hrun⟩ := hI_1
 have h1_2 := KS hs_1 2
 have h1_15 := KS hs_1 15
 have h1_16 := KS hs_1 16
 have k1_0 := KE hf_1 (b)
 have k1_1 := KE hf_1 (g)
 have hlow := KL (N := N) (σ := σ) hf_1
 clear hR
 by_cases hul : u = L.length
 ·subst hul
  rw [List.drop_length, walkA] at hrun
  subst hrun
  simp only [Option.getD_some, Option.isSome_some]
  clear hl ha hat
  exact WL
 ·have hu1 : u < L.length := by omega
  obtain ⟨z, hz⟩ : ∃ z, L[u] = z := ⟨_, rfl⟩
  have hzl := hl z (by rw [← hz]; exact List.getElem_mem _)
  have hzm : (L.map bAV)[u]? = some (.slice none (z.map byteAV)) := by rw [List.getElem?_map, List.getElem?_eq_getElem hu1, hz]; rfl
  rw [List.drop_eq_getElem_cons hu1, hz, walkA] at hrun
  have c1 := Tags1_spec a m ha hm t z hzl.1 hzl.2 b g
  have hb26 : (acc.length + 1) * 32 ≤ 140737488355328 := by omega
  clear hl ha
  unfold entAV at c1
  cases ho : lookO a t z with
  | none =>
   rw [ho] at hrun c1
   simp only at hrun
   subst hrun
   simp only [Option.getD_none, Option.isSome_none, List.map_nil] at c1 ⊢
   have hcs := And.intro c1 True.intro
   clear c1 ho
   exact WL
  | some t2 =>
   rw [ho] at hrun c1
   simp only at hrun
   simp only [Option.getD_some, Option.isSome_some] at c1
   have hcs := And.intro c1 True.intro
   have hal2 : (acc ++ [t2]).length = u + 1 + 1 := by rw [List.length_append, List.length_singleton, hal]
   have hat2 : ((acc ++ [t2]).map tagAV)[u + 1]? = some (tagAV t2) := by rw [List.getElem?_map, List.getElem?_append_right (by omega), hal]; simp
   clear c1 ho
   refine Wk ?_
   exact ⟨WS, WG, WN, _, (show L.length - (u + 1) < m_1 by omega), u + 1, t2, acc ++ [t2], rfl, WF, WF, WF, WC, WC, WC, WC⟩
end
end Go.Proofs.YtdmjpolnbmoehaaGreatDoor
