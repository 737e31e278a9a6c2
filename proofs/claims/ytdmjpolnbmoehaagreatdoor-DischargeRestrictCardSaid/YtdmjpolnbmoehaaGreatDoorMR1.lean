/- Texts C1p, C3p, C4p, C5p, K3p, K7p, Q5, W1, W12, D9p, U9, O0, joined. -/
import Derived.Test.YtdmjpolnbmoehaaGreatDoorMS1

namespace Go.Ab
open Go.RowKit
theorem byte_of_wf {a : Int} (h : (Lit.int .u8 a).wf = true) : ∃ b : UInt8, AV.lit (.int .u8 a) = byteAV b ∧ a = (b.toNat : Int) := by
 have hw : IntKind.u8.min ≤ a ∧ a ≤ IntKind.u8.max := by simpa [Lit.wf] using h
 have e1 : IntKind.u8.min = 0 := by decide
 have e2 : IntKind.u8.max = 255 := by decide
 obtain ⟨n, rfl⟩ := Int.eq_ofNat_of_zero_le (show 0 ≤ a by omega)
 refine ⟨UInt8.ofNat n, ?_, ?_⟩
 ·simp only [byteAV]
  rw [UInt8.toNat_ofNat', Nat.mod_eq_of_lt (by omega)]
 ·rw [UInt8.toNat_ofNat', Nat.mod_eq_of_lt (by omega)]
end Go.Ab

namespace Go.Ab
open Go.RowKit Go.ChangeShapes
def layB (P : Program) : List Field → Nat → Nat → Bool
 | [], off, tot => off == tot
 | f :: fs, off, tot => f.offset == off && layB P fs (off + P.cellsOf f.type) tot
def dataTy (P : Program) : Nat → TypeId → Bool
 | 0, _ => false
 | m + 1, t => match P.underlying t with
  | some .bool => P.cellsOf t == 1
  | some (.int _) => P.cellsOf t == 1
  | some .string => P.cellsOf t == 1
  | some (.slice e) => dataTy P m e && decide (0 < P.cellsOf e) && P.cellsOf t == 1
  | some (.array n e) => dataTy P m e && P.cellsOf t == n * P.cellsOf e
  | some (.struct fs) => (fs.toList.all fun f => dataTy P m f.type) && layB P fs.toList 0 (P.cellsOf t)
  | _ => false
def aggT (P : Program) (t : TypeId) : Bool :=
 match P.underlying t with
 | some (.array _ _) | some (.struct _) => true
 | _ => false
theorem range_mapM_cells {w : World} {a : Addr} {n : Nat} {cs : List Value} (h : (List.range n).mapM (fun i => w.cell? (a.add i)) = some cs) : cs.length = n ∧ ∀ (i : Nat) (v : Value), cs[i]? = some v → w.cell? (a.add i) = some v := by
 have hl := mapM_some_length h
 refine ⟨by simpa using hl, fun i v hv => ?_⟩
 have hi : i < n := by have := (List.getElem?_eq_some_iff.1 hv).1; simp at hl; omega
 have := mapM_some_get h i i (by simp [hi])
 rw [this]; exact hv
theorem flat_pieces {cs : List Value} {size : Nat} : ∀ (vs : List Value), cs.length = vs.length * size → (∀ (i : Nat) (v : Value), vs[i]? = some v → v.cells.toList = (cs.drop (i * size)).take size) → flat vs = cs
 | [], hl, _ => by
  simp at hl
  subst hl; rfl
 | v :: vs, hl, h => by
  have h0 := h 0 v rfl
  simp only [Nat.zero_mul, List.drop_zero] at h0
  rw [flat_cons, h0]
  simp only [List.length_cons, Nat.add_mul, Nat.one_mul] at hl
  have ih := flat_pieces (cs := cs.drop size) (size := size) vs (by rw [List.length_drop]; omega) fun i u hu => by
   have := h (i + 1) u (by simpa using hu)
   rw [this, List.drop_drop]
   congr 2
   rw [Nat.add_mul]; omega
  rw [ih, List.take_append_drop]
theorem flat_fields {P : Program} {cs : List Value} : ∀ (fs : List Field) (vs : List Value) (off : Nat), layB P fs off cs.length = true → vs.length = fs.length → off ≤ cs.length → (∀ (i : Nat) (f : Field) (v : Value), fs[i]? = some f → vs[i]? = some v → v.cells.toList = (cs.drop f.offset).take (P.cellsOf f.type) ∧ v.cells.size = P.cellsOf f.type) → flat vs = cs.drop off
 | [], vs, off, hl, hv, hle, _ => by
  cases vs with
  | nil =>
   simp only [layB, beq_iff_eq] at hl
   rw [hl, List.drop_length]; rfl
  | cons => simp at hv
 | f :: fs, vs, off, hl, hv, hle, h => by
  cases vs with
  | nil => simp at hv
  | cons v vs =>
   simp only [layB, Bool.and_eq_true, beq_iff_eq] at hl
   obtain ⟨h1, h2⟩ := h 0 f v rfl rfl
   have hsz : ((cs.drop off).take (P.cellsOf f.type)).length = P.cellsOf f.type := by rw [← hl.1, ← h1, Array.length_toList, h2]
   rw [List.length_take, List.length_drop] at hsz
   have ih := flat_fields (P := P) (cs := cs) fs vs (off + P.cellsOf f.type) hl.2 (by simpa using hv) (by omega) fun i g u hg hu => h (i + 1) g u (by simpa using hg) (by simpa using hu)
   rw [flat_cons, h1, hl.1, ih, ← List.drop_drop, List.take_append_drop]
theorem list_of {α : Type} {Q : Nat → α → Prop} : ∀ n, (∀ i, i < n → ∃ p, Q i p) → ∃ l : List α, l.length = n ∧ ∀ (i : Nat) (p : α), l[i]? = some p → Q i p
 | 0, _ => ⟨[], rfl, fun i p h => by simp at h⟩
 | n + 1, h => by
  obtain ⟨l, hl, hq⟩ := list_of n fun i hi => h i (by omega)
  obtain ⟨p, hp⟩ := h n (by omega)
  refine ⟨l ++ [p], by simp [hl], fun i q hq' => ?_⟩
  by_cases hi : i < l.length
  ·rw [List.getElem?_append_left hi] at hq'; exact hq i q hq'
  ·rw [List.getElem?_append_right (by omega)] at hq'
   have : i - l.length = 0 := by
    have := (List.getElem?_eq_some_iff.1 hq').1
    simp at this; omega
   rw [this] at hq'
   simp at hq'
   subst hq'
   have : i = n := by omega
   rw [this]; exact hp
theorem weightsAll_mem {H : Type} {P : Program} {e : TypeId} : ∀ {ds : List (DataW H)} {i : Nat} {d : DataW H}, ds[i]? = some d → ∀ n ∈ d.weights P e, n ∈ DataW.weightsAll P e ds
 | d0 :: r, 0, d, h, n, hn => by
  simp only [List.getElem?_cons_zero, Option.some.injEq] at h
  subst h
  simp only [DataW.weightsAll, List.mem_append]
  exact .inl hn
 | d0 :: r, i + 1, d, h, n, hn => by
  simp only [List.getElem?_cons_succ] at h
  simp only [DataW.weightsAll, List.mem_append]
  exact .inr (weightsAll_mem h n hn)
 | [], _, _, h, _, _ => by simp at h
section
variable {H : Type} {enc : TypeId × Value → H} {P : Program} {w : World} {base : Nat} {spare : Nat → Bool} {held : Bool}
theorem trod_rep : ∀ (m : Nat) (t : TypeId), dataTy P m t = true → ∀ (fuel : Nat) (cs : List Value) (x : DataW H × List MemPlace), DataW.trod enc P w base spare held fuel t cs = some x → (∀ n ∈ x.1.weights P t, n ≤ 140737488351232) →
  ∃ (p : AV × Value), p.2.cells.toList = cs ∧ Rep (g0 w) p.1 p.2 ∧ tyAV P m t p.1 ∧ p.2.cells.size = P.cellsOf t ∧ valAgg p.2 = aggT P t ∧ valTup p.2 = false
 | 0, _, h => by simp [dataTy] at h
 | m + 1, t, h => by
  intro fuel cs x hx hw0
  unfold dataTy at h
  unfold tyAV aggT
  split at h
  ·rename_i ht
   obtain ⟨b, rfl, rfl⟩ := DataW.trod_bool ht hx
   simp only [ht]
   exact ⟨(.lit (.bool b), .bool b), rfl, .lit _ rfl, ⟨b, rfl⟩, by simpa [Value.cells] using (beq_iff_eq.1 h).symm, rfl, rfl⟩
  ·rename_i k ht
   obtain ⟨n, rfl, rfl, hw⟩ := DataW.trod_int ht hx
   simp only [ht]
   exact ⟨(.lit (.int k n), .int k n), rfl, .lit _ rfl, ⟨n, rfl, hw⟩, by simpa [Value.cells] using (beq_iff_eq.1 h).symm, rfl, rfl⟩
  ·rename_i ht
   obtain ⟨s, rfl, rfl, hw⟩ := DataW.trod_string ht hx
   simp only [ht]
   refine ⟨(.lit (.string s), .string s), rfl, .lit _ rfl, ⟨s.data.toList, by simp, ?_⟩, by simpa [Value.cells] using (beq_iff_eq.1 h).symm, rfl, rfl⟩
   unfold maxLen at hw
   have : s.data.toList.length = s.size := by simp
   omega
  ·rename_i e ht
   simp only [Bool.and_eq_true, decide_eq_true_eq, beq_iff_eq] at h
   obtain ⟨⟨h1, h2⟩, h3⟩ := h
   simp only [ht]
   rcases DataW.trod_slice ht hx with ⟨rfl, rfl⟩ | ⟨a, len, cap, elems, rest, n, _, rfl, rfl, hba, hlc, hcm, hel, hcell, _⟩
   ·exact ⟨(.slice none [], .slice none 0 0), rfl, AV.le_nils0 _ _ .nils, ⟨[], rfl, by simp, (fun y hy => by cases hy), by simp⟩, by simp [Value.cells, h3], rfl, rfl⟩
   ·have hwu : (DataW.slice (elems.map (·.1)) (rest.map (·.1))).weights P t = ((elems.map (·.1)).length + (rest.map (·.1)).length) * P.bytesOf e :: (DataW.weightsAll P e (elems.map (·.1)) ++ DataW.weightsAll P e (rest.map (·.1))) := by simp only [DataW.weights, ht]
    simp only [hwu] at hw0
    have hwl : len * P.bytesOf e ≤ 140737488351232 := Nat.le_trans (Nat.mul_le_mul_right _ (by rw [List.length_map, hel]; omega)) (hw0 _ (List.mem_cons_self ..))
    have hwe : ∀ (i : Nat) (z : DataW H × List MemPlace), elems[i]? = some z → ∀ n ∈ z.1.weights P e, n ≤ 140737488351232 := fun i z hz n hn =>
     hw0 n (List.mem_cons_of_mem _ (List.mem_append_left _ (weightsAll_mem (i := i) (by rw [List.getElem?_map, hz]; rfl) n hn)))
    obtain ⟨l, hl, hq⟩ := list_of (Q := fun i (p : AV × Value) => Rep (g0 w) p.1 p.2 ∧ tyAV P m e p.1 ∧ p.2.cells.size = P.cellsOf e ∧ ∀ (j : Nat) (v : Value), p.2.cells.toList[j]? = some v → w.cell? ((a.add (i * P.cellsOf e)).add j) = some v) len fun i hi => by
     have hc := hcell i hi
     have hei : elems[i]? = some elems[i] := List.getElem?_eq_getElem (by omega)
     rw [hei] at hc
     simp only [Option.bind_eq_some_iff] at hc
     obtain ⟨cs, hcs, hd⟩ := hc
     unfold World.cells? at hcs
     split at hcs
     ·obtain ⟨hcl, hcc⟩ := range_mapM_cells hcs
      obtain ⟨p, p1, p2, p3, p4, p5, p6⟩ := trod_rep m e h1 n cs _ hd (hwe i _ hei)
      exact ⟨p, p2, p3, p4, by rw [p1]; exact hcc⟩
     ·cases hcs
    have hlen : (l.map (·.1)).length = len := by simp [hl]
    have hsz : ∀ v ∈ l.map (·.2), v.cells.size = P.cellsOf e := fun v hv => by
     obtain ⟨p, hp, rfl⟩ := List.mem_map.1 hv
     obtain ⟨i, hi⟩ := List.getElem?_of_mem hp
     exact (hq i p hi).2.2.1
    have hrep := Rep.slice (g := g0 w) none (l.map (·.1)) (l.map (·.2)) (some a) cap (P.cellsOf e) (by simp) (by rw [hlen]; exact hlc) hcm
     (fun i x v hx hv => by
      rw [List.getElem?_map] at hx hv
      cases hli : l[i]? with
      | none => rw [hli] at hx; cases hx
      | some p => rw [hli] at hx hv; cases hx; cases hv; exact (hq i p hli).1) hsz
     (by
      rw [hlen]
      by_cases h0 : len = 0
      ·exact .inl h0
      ·right
       have hl0 : l[0]? = some l[0] := List.getElem?_eq_getElem (by omega)
       obtain ⟨_, _, q3, q4⟩ := hq 0 _ hl0
       have hc0 : 0 < (l[0]).2.cells.toList.length := by rw [Array.length_toList, q3]; exact h2
       have hcell0 := q4 0 _ (List.getElem?_eq_getElem hc0)
       have hspot : a.spot = none := by
        have := World.cell?_spot hcell0
        simpa [Addr.add] using this
       obtain ⟨b, off, sp⟩ := a
       simp only at hspot
       subst hspot
       have hb : b < w.heap.size := by
        rw [Addr.add_lit, Addr.add_lit] at hcell0
        rcases Nat.lt_or_ge b w.heap.size with h | h
        ·exact h
        ·exfalso
         simp [World.cell?, Array.getElem?_eq_none h] at hcell0
       refine ⟨b, off, rfl, fun j u hu => ?_⟩
       simp only [g0, if_pos hb]
       have hflen : (flat (l.map (·.2))).length = len * P.cellsOf e := by rw [flat_length _ _ hsz, List.length_map, hl]
       have hj : j < len * P.cellsOf e := by rw [← hflen]; exact (List.getElem?_eq_some_iff.1 hu).1
       have hi : j / P.cellsOf e < len := by rw [Nat.div_lt_iff_lt_mul h2]; exact hj
       have hli : l[j / P.cellsOf e]? = some l[j / P.cellsOf e] := List.getElem?_eq_getElem (by omega)
       obtain ⟨_, _, r3, r4⟩ := hq _ _ hli
       have hjm : j % P.cellsOf e < (l[j / P.cellsOf e]).2.cells.toList.length := by rw [Array.length_toList, r3]; exact Nat.mod_lt _ h2
       have hat := flat_at (l.map (·.2)) (P.cellsOf e) hsz (j / P.cellsOf e) (l[j / P.cellsOf e]).2 (by rw [List.getElem?_map, hli]; rfl) (j % P.cellsOf e) _ (List.getElem?_eq_getElem hjm)
       have hsplit : j / P.cellsOf e * P.cellsOf e + j % P.cellsOf e = j := by rw [Nat.mul_comm]; exact Nat.div_add_mod j (P.cellsOf e)
       rw [hsplit, hu] at hat
       have hcl := r4 (j % P.cellsOf e) u (by rw [List.getElem?_eq_getElem hjm]; exact hat.symm)
       rw [Addr.add_lit, Addr.add_lit] at hcl
       rw [← hcl]
       congr 2
       omega) (fun id hid => by cases hid)
    rw [hlen] at hrep
    refine ⟨(.slice none (l.map (·.1)), .slice (some a) len cap), rfl, hrep, ⟨_, rfl, by rw [hlen]; unfold maxLen at hcm; omega, fun y hy => ?_, by rw [hlen]; exact hwl⟩, by simp [Value.cells, h3], rfl, rfl⟩
    obtain ⟨p, hp, rfl⟩ := List.mem_map.1 hy
    obtain ⟨i, hi⟩ := List.getElem?_of_mem hp
    exact (hq i p hi).2.1
  ·rename_i n e ht
   simp only [Bool.and_eq_true, beq_iff_eq] at h
   obtain ⟨h1, h2⟩ := h
   obtain ⟨xs, q, _, rfl, hl, hxl, hf⟩ := DataW.trod_array ht hx
   have hwu : (DataW.agg (xs.map (·.1))).weights P t = DataW.weightsAll P e (xs.map (·.1)) := by simp only [DataW.weights, ht]
   simp only [hwu] at hw0
   have hwe : ∀ (i : Nat) (z : DataW H × List MemPlace), xs[i]? = some z → ∀ n ∈ z.1.weights P e, n ≤ 140737488351232 := fun i z hz n hn =>
    hw0 n (weightsAll_mem (i := i) (by rw [List.getElem?_map, hz]; rfl) n hn)
   simp only [ht]
   obtain ⟨l, hll, hq⟩ := list_of (Q := fun i (p : AV × Value) => Rep (g0 w) p.1 p.2 ∧ tyAV P m e p.1 ∧ p.2.cells.size = P.cellsOf e ∧ p.2.cells.toList = (cs.drop (i * P.cellsOf e)).take (P.cellsOf e)) n fun i hi => by
    have hd := hf i hi
    have hxi : xs[i]? = some (xs[i]'(by omega)) := List.getElem?_eq_getElem (by omega)
    rw [hxi] at hd
    obtain ⟨p, p1, p2, p3, p4, p5, p6⟩ := trod_rep m e h1 q _ _ hd (hwe i _ hxi)
    exact ⟨p, p2, p3, p4, p1⟩
   have hfl : flat (l.map (·.2)) = cs := flat_pieces (size := P.cellsOf e) _ (by rw [hl, h2, List.length_map, hll]) fun i v hv => by
    rw [List.getElem?_map] at hv
    cases hli : l[i]? with
    | none => rw [hli] at hv; cases hv
    | some p => rw [hli] at hv; cases hv; exact (hq i p hli).2.2.2
   refine ⟨(.agg (l.map (·.1)), .agg (flat (l.map (·.2))).toArray), by rw [hfl]; rfl, .agg _ _ (by simp) (fun i x v hx hv => ?_), ⟨_, rfl, by simp [hll], fun y hy => ?_⟩, by simp [Value.cells, hfl, hl], rfl, rfl⟩
   ·rw [List.getElem?_map] at hx hv
    cases hli : l[i]? with
    | none => rw [hli] at hx; cases hx
    | some p => rw [hli] at hx hv; cases hx; cases hv; exact (hq i p hli).1
   ·obtain ⟨p, hp, rfl⟩ := List.mem_map.1 hy
    obtain ⟨i, hi⟩ := List.getElem?_of_mem hp
    exact (hq i p hi).2.1
  ·rename_i fs ht
   simp only [Bool.and_eq_true, List.all_eq_true] at h
   obtain ⟨h1, h2⟩ := h
   obtain ⟨xs, q, _, rfl, hl, hxl, hf⟩ := DataW.trod_struct ht hx
   have hwu : (DataW.agg (xs.map (·.1))).weights P t = DataW.weightsEach P (fs.toList.map (·.type)) (xs.map (·.1)) := by simp only [DataW.weights, ht]
   simp only [hwu] at hw0
   have hwe : ∀ (i : Nat) (f : Field) (z : DataW H × List MemPlace), fs[i]? = some f → xs[i]? = some z → ∀ n ∈ z.1.weights P f.type, n ≤ 140737488351232 := fun i f z hf hz n hn =>
    hw0 n (DataW.weights_mem_each (j := i) (t := f.type) (by rw [List.getElem?_map, Array.getElem?_toList, hf]; rfl) (by rw [List.getElem?_map, hz]; rfl) n hn)
   simp only [ht]
   obtain ⟨l, hll, hq⟩ := list_of (Q := fun i (p : AV × Value) => ∀ f, fs[i]? = some f → Rep (g0 w) p.1 p.2 ∧ tyAV P m f.type p.1 ∧ p.2.cells.size = P.cellsOf f.type ∧ p.2.cells.toList = (cs.drop f.offset).take (P.cellsOf f.type)) fs.size fun i hi => by
    have hfi : fs[i]? = some fs[i] := by simp [hi]
    have hd := hf i _ hfi
    have hxi : xs[i]? = some (xs[i]'(by omega)) := List.getElem?_eq_getElem (by omega)
    rw [hxi] at hd
    obtain ⟨p, p1, p2, p3, p4, p5, p6⟩ := trod_rep m (fs[i]).type (h1 _ (Array.getElem_mem_toList hi)) q _ _ hd (hwe i _ _ hfi hxi)
    exact ⟨p, fun f hf' => by rw [hfi] at hf'; cases hf'; exact ⟨p2, p3, p4, p1⟩⟩
   have hfl : flat (l.map (·.2)) = cs := by
    have := flat_fields (P := P) (cs := cs) fs.toList (l.map (·.2)) 0 (by rw [hl]; exact h2) (by simp [hll]) (Nat.zero_le _) fun i f v hf' hv => by
     rw [List.getElem?_map] at hv
     cases hli : l[i]? with
     | none => rw [hli] at hv; cases hv
     | some p =>
      rw [hli] at hv; cases hv
      obtain ⟨_, _, q3, q4⟩ := hq i p hli f (by simpa using hf')
      exact ⟨q4, q3⟩
    simpa using this
   have hat : ∀ (i : Nat) (p : AV × Value), l[i]? = some p → ∃ f, fs[i]? = some f := fun i p hp => by
    have : i < fs.size := by have := (List.getElem?_eq_some_iff.1 hp).1; omega
    exact ⟨fs[i], by simp [this]⟩
   refine ⟨(.agg (l.map (·.1)), .agg (flat (l.map (·.2))).toArray), by rw [hfl]; rfl, .agg _ _ (by simp) (fun i x v hx hv => ?_), ⟨_, rfl, by simp [hll], fun i f y hf' hy => ?_⟩, by simp [Value.cells, hfl, hl], rfl, rfl⟩
   ·rw [List.getElem?_map] at hx hv
    cases hli : l[i]? with
    | none => rw [hli] at hx; cases hx
    | some p =>
     rw [hli] at hx hv; cases hx; cases hv
     obtain ⟨f, hf'⟩ := hat i p hli
     exact (hq i p hli f hf').1
   ·rw [List.getElem?_map] at hy
    cases hli : l[i]? with
    | none => rw [hli] at hy; cases hy
    | some p => rw [hli] at hy; cases hy; exact (hq i p hli f hf').2.1
  ·cases h
theorem open_any {m : Nat} {t : TypeId} {v : Value} {d : DataW H} {ps : List MemPlace} {r : Reach} {b0 : Nat} (ht : dataTy P m t = true) (hval : Value.okWide P w r b0 t v) (hd : DataW.Trod enc P w base spare held t v d ps) (hw : ∀ n ∈ d.weights P t, n ≤ 140737488351232) : ∃ x, Rep (g0 w) x v ∧ tyAV P m t x := by
 obtain ⟨fuel, hf⟩ := hd
 obtain ⟨p, p1, p2, p3, p4, p5, p6⟩ := trod_rep m t ht fuel _ _ hf hw
 have hv : p.2 = v := by
  unfold Value.okWide at hval
  cases ha : aggT P t with
  | true =>
   have hag : ∃ cs, v = .agg cs := by
    unfold aggT at ha
    split at ha
    ·rename_i h; rw [h] at hval; exact ⟨_, hval.choose_spec.1⟩
    ·rename_i h; rw [h] at hval; exact ⟨_, hval.choose_spec.1⟩
    ·cases ha
   obtain ⟨cs, rfl⟩ := hag
   rw [ha] at p5
   cases hp : p.2 <;> rw [hp] at p5 <;> simp [valAgg] at p5
   rename_i cs'
   rw [hp] at p1
   simp only [Value.cells] at p1
   congr 1
   exact Array.ext' p1
  | false =>
   rw [ha] at p5
   have hna : valAgg v = false := by
    cases v <;> try rfl
    rename_i cs
    exfalso
    obtain ⟨m', rfl⟩ : ∃ k, m = k + 1 := by cases m with
     | zero => simp [dataTy] at ht
     | succ k => exact ⟨k, rfl⟩
    unfold dataTy at ht
    unfold aggT at ha
    split at ht <;> first | (cases ht; done) | (rename_i h; rw [h] at ha hval; simp [Cell.okWide, Cell.ok] at ha hval; done)
   have c1 : ∀ u : Value, valAgg u = false → u.cells = #[u] := fun u hu => by cases u <;> simp_all [valAgg, Value.cells]
   rw [c1 _ p5, c1 _ hna] at p1
   simpa using p1
 subst hv
 exact ⟨p.1, p2, p3⟩
end
end Go.Ab

namespace Go.Ab
open Go.RowKit
theorem list_map_of {α : Type} {R : α → Prop} {f : α → AV} : ∀ {xs : List AV}, (∀ y ∈ xs, ∃ d, R d ∧ y = f d) → ∃ ds : List α, (∀ d ∈ ds, R d) ∧ xs = ds.map f ∧ ds.length = xs.length
 | [], _ => ⟨[], fun d h => (by cases h), rfl, rfl⟩
 | x :: xs, h => by
  obtain ⟨d, h1, h2⟩ := h x (List.mem_cons_self ..)
  obtain ⟨ds, h3, h4, h5⟩ := list_map_of (xs := xs) fun y hy => h y (List.mem_cons_of_mem _ hy)
  refine ⟨d :: ds, fun e he => ?_, by simp [h2, ← h4], by simp [h5]⟩
  rcases List.mem_cons.1 he with rfl | he
  ·exact h1
  ·exact h3 e he
theorem ty_int {P : Program} {m : Nat} {t : TypeId} {k : IntKind} {x : AV} (ht : intTy P t = some k) (h : tyAV P (m + 1) t x) : ∃ n, (Lit.int k n).wf = true ∧ x = .lit (.int k n) := by
 unfold tyAV at h
 rw [intTy_sound ht] at h
 obtain ⟨n, h1, h2⟩ := h
 exact ⟨n, h2, h1⟩
theorem ty_str {P : Program} {m : Nat} {t : TypeId} {x : AV} (ht : strTy P t = true) (h : tyAV P (m + 1) t x) : ∃ l : List UInt8, l.length ≤ 9223372036854775807 ∧ x = .lit (.string ⟨l.toArray⟩) := by
 unfold tyAV at h
 rw [strTy_sound ht] at h
 obtain ⟨l, h1, h2⟩ := h
 exact ⟨l, h2, h1⟩
theorem ty_slice {P : Program} {m : Nat} {t e : TypeId} {x : AV} (ht : sliceTy P t = some e) (h : tyAV P (m + 1) t x) : ∃ xs, xs.length ≤ 9223372036854775807 ∧ (∀ y ∈ xs, tyAV P m e y) ∧ x = .slice none xs := by
 unfold tyAV at h
 rw [sliceTy_sound ht] at h
 obtain ⟨xs, h1, h2, h3, _⟩ := h
 exact ⟨xs, h2, h3, h1⟩
theorem ty_sliceW {P : Program} {m : Nat} {t e : TypeId} {x : AV} (ht : sliceTy P t = some e) (h : tyAV P (m + 1) t x) : ∃ xs, xs.length ≤ 9223372036854775807 ∧ (∀ y ∈ xs, tyAV P m e y) ∧ x = .slice none xs ∧ xs.length * P.bytesOf e ≤ 140737488351232 := by
 unfold tyAV at h
 rw [sliceTy_sound ht] at h
 obtain ⟨xs, h1, h2, h3, h4⟩ := h
 exact ⟨xs, h2, h3, h1, h4⟩
theorem ty_byte {P : Program} {m : Nat} {t : TypeId} {x : AV} (ht : byteTy P t = true) (h : tyAV P (m + 1) t x) : ∃ b : UInt8, True ∧ x = byteAV b := by
 have he : P.underlying t = some (.int .u8) := by
  unfold byteTy at ht
  split at ht
  ·assumption
  ·cases ht
 unfold tyAV at h
 rw [he] at h
 obtain ⟨n, rfl, hw⟩ := h
 obtain ⟨b, hb, _⟩ := byte_of_wf hw
 exact ⟨b, trivial, hb⟩
theorem ty_bytesW {P : Program} {m : Nat} {t e : TypeId} {x : AV} (ht : sliceTy P t = some e) (he : byteTy P e = true) (hb : P.bytesOf e = 1) (h : tyAV P (m + 2) t x) : ∃ bs : List UInt8, bs.length ≤ 140737488351232 ∧ x = .slice none (bs.map byteAV) := by
 obtain ⟨xs, h1, h2, rfl, h0⟩ := ty_sliceW ht h
 obtain ⟨bs, _, h3, h4⟩ := list_map_of fun y hy => ty_byte he (h2 y hy)
 rw [hb] at h0
 exact ⟨bs, by omega, by rw [h3]⟩
theorem ty_bytearr {P : Program} {m n size : Nat} {t e : TypeId} {x : AV} (ht : arrInfo P t = some (n, e, size)) (he : byteTy P e = true) (h : tyAV P (m + 2) t x) : ∃ bs : List UInt8, bs.length = n ∧ x = .agg (bs.map byteAV) := by
 unfold tyAV at h
 rw [arrTy_sound (arrInfo_sound ht).1] at h
 obtain ⟨xs, rfl, h1, h2⟩ := h
 obtain ⟨bs, _, h3, h4⟩ := list_map_of fun y hy => ty_byte he (h2 y hy)
 exact ⟨bs, by omega, by rw [h3]⟩
theorem ty_list {P : Program} {α : Type} {R : α → Prop} {f : α → AV} {m : Nat} {t e : TypeId} {x : AV} (ht : sliceTy P t = some e) (he : ∀ y, tyAV P m e y → ∃ d, R d ∧ y = f d) (h : tyAV P (m + 1) t x) : ∃ l : List α, (l.length ≤ 9223372036854775807 ∧ ∀ d ∈ l, R d) ∧ x = .slice none (l.map f) := by
 obtain ⟨xs, h1, h2, rfl⟩ := ty_slice ht h
 obtain ⟨l, h3, h4, h5⟩ := list_map_of fun y hy => he y (h2 y hy)
 exact ⟨l, ⟨by omega, h3⟩, by rw [h4]⟩
theorem ty_struct {P : Program} {m : Nat} {t : TypeId} {fs : Array Field} {x : AV} (ht : P.underlying t = some (.struct fs)) (h : tyAV P (m + 1) t x) : ∃ xs, x = .agg xs ∧ xs.length = fs.size ∧ ∀ (i : Nat) (f : Field) (y : AV), fs[i]? = some f → xs[i]? = some y → tyAV P m f.type y := by
 unfold tyAV at h
 rw [ht] at h
 exact h

theorem ty_tag {P : Program} {m size : Nat} {t e : TypeId} {x : AV} (ht : arrInfo P t = some (32, e, size)) (he : byteTy P e = true) (h : tyAV P (m + 2) t x) : ∃ a : Tg, True ∧ x = tagAV a := by
 obtain ⟨bs, h1, rfl⟩ := ty_bytearr ht he h
 exact ⟨⟨bs, h1⟩, trivial, rfl⟩
theorem i64_of_wf {a : Int} (h : (Lit.int .i64 a).wf = true) : -9223372036854775808 ≤ a ∧ a ≤ 9223372036854775807 := by
 have hw : IntKind.i64.min ≤ a ∧ a ≤ IntKind.i64.max := by simpa [Lit.wf] using h
 have e1 : IntKind.i64.min = -9223372036854775808 := by decide
 have e2 : IntKind.i64.max = 9223372036854775807 := by decide
 omega
end Go.Ab

namespace Go.Proofs.YtdmjpolnbmoehaaGreatDoor
open Go.Ab
attribute [local irreducible] Go.Ab.tyAV Go.Ab.aw Go.Ab.aops Go.Ab.kReg Go.Ab.aThen Go.Ab.aBlk Go.Ab.acond Go.Ab.aguard Go.Ab.astep Go.Ab.AStepX Go.Ab.aRet
theorem SamePredicates_refl (l : List Pr) (hl : l.length ≤ 100000) (k : Nat) :
  ACall Tryz.prog 87 [.slice none (l.map prAV), .slice none (l.map prAV)] k [] (.lit (.bool true)) [] := by
 refine Bd Tryz.func87 Tryz.ntmps87 fun σ N hp hpn hk hkn hfree => ?_
 refine Wk ?_
 refine go_loopF mixed (by kernel_rfl) [4, 5, 11, 12, 13, 14, 15, 16, 17, 18, 19, 20, 21, 22, 23, 24, 25] [] (fun m_ s_ σ_ n_ => ∃ (u : Nat), m_ = l.length - u ∧ s_ 5 = .lit (.int .i64 u) ∧ (u ≤ l.length)) ⟨_, 0, rfl, WF, WC⟩ ?_
 intro m_3 s_3 σ_3 n_3 hs_3 hf_3 hn_3 hI_3
 obtain ⟨u, hm_3, h3_5, hu⟩ := hI_3
 have h3_0 := KS hs_3 0
 have h3_1 := KS hs_3 1
 have hlow := KL (N := N) (σ := σ) hf_3
 by_cases hul : u = l.length
 ·subst hul
  exact W0
 ·have hui : u < l.length := by omega
  obtain ⟨c, hc⟩ : ∃ c, l[u] = c := ⟨_, rfl⟩
  refine Wk ?_
  exact ⟨WS, WG, WN, _, (show l.length - (u + 1) < m_3 by omega), u + 1, rfl, WF, WC⟩

theorem Enc_bad (p : Pr) (hp0 : PrOk p) (h : predB p = false) (d k : Nat) :
  ACall Tryz.prog 96 [prAV p] k [(d, bitsG)] (.tup [.nils, .lit (.int .i64 5)]) [] := by
 have c1 := predValid_spec p hp0 d
 rw [h] at c1
 refine Bd Tryz.func96 Tryz.ntmps96 fun σ N hp hpn hk hkn hfree => ?_
 obtain ⟨hd, hdn⟩ := HD0 hp hpn; clear hp hpn
 have hcs := And.intro c1 True.intro
 clear c1
 exact W0
end Go.Proofs.YtdmjpolnbmoehaaGreatDoor

namespace Go.Proofs.YtdmjpolnbmoehaaGreatDoor
open Go.Ab
attribute [local irreducible] Go.Ab.tyAV Go.Ab.aw Go.Ab.aops Go.Ab.kReg Go.Ab.aThen Go.Ab.aBlk Go.Ab.acond Go.Ab.aguard Go.Ab.astep Go.Ab.AStepX Go.Ab.aRet
attribute [local irreducible] shaG
section
variable [W : W32]
end

theorem bitsG_nbx {t : TypeId} {x : AV} (h : bitsG = .box t x) : False := by unfold bitsG at h; cases h
theorem bitsG_nrw {t : TypeId} {n m : Nat} (h : bitsG = .row t n m) : False := by unfold bitsG at h; cases h
section
variable [W : W32]
end

theorem pEncS_spec (p : Pr) (hp0 : PrOk p) (d k : Nat) : ACall Tryz.prog 96 [prAV p] k [(d, bitsG)] (encAV (encPS p)) [] := by
 unfold encPS
 split
 ·rename_i h; exact Enc_spec p hp0 h d k
 ·rename_i h
  exact (Enc_bad p hp0 (by simpa using h) d k).result (AV.sub_tup (.cons AV.le_nils0 (.cons (AV.le_refl _) .nil)))
theorem ClipP_spec (l : List Pr) (_hl : l.length ≤ 1000000) (k : Nat) :
  ACall Tryz.prog 152 [.slice none (l.map prAV)] k [] (.clip (l.map prAV)) [] := by
 refine Bd Tryz.func152 Tryz.ntmps152 fun σ N hp hpn hk hkn hfree => ?_
 exact W0
section
variable [W : W32]
def condP (a : Alg) (e : Nat) (d : Di) (p : Pr) : Alg × Nat × Di :=
 ((mMac a (if e = 0 then (encPS p).2 else e) d.tag (condM p)).1, (mMac a (if e = 0 then (encPS p).2 else e) d.tag (condM p)).2.1, ⟨d.ticket, d.conds ++ [p], (mMac a (if e = 0 then (encPS p).2 else e) d.tag (condM p)).2.2⟩)
set_option maxHeartbeats 4000000 in
theorem dCond_spec (a : Alg) (m : Nat) (ha : AlgIn a m) (hm : m ≤ 900000) (e : Nat) (d : Di) (hdt : d.ticket.length ≤ 100000) (hdc : d.conds.length ≤ 10000) (p : Pr) (hp0 : PrOk p) (q r1 r2 g h k : Nat) :
  ACall Tryz.prog 83 [.ptr q [] 0, diAV d, prAV p] k (makE a e q r1 r2 ++ [(g, shaG), (h, bitsG)]) (diAV (condP a e d p).2.2) [(q, makB (condP a e d p).1 (condP a e d p).2.1 r1 r2), (r1, rowM (condP a e d p).1.macs.length)] := by
 have c1 := pEncS_spec p hp0 h
 have hM : [99, 111, 110, 100, 105, 116, 105, 111, 110] ++ (encPS p).1 = condM p := rfl
 have hMl := condM_len p
 have hEl := encPS_len p
 have c2 := Message_spec [99, 111, 110, 100, 105, 116, 105, 111, 110] (encPS p).1 (by decide) (by omega)
 rw [hM] at c2
 have hM0 : 0 < (condM p).length := by simp [condM]
 have f1 := Fail_spec a e (encPS p).2 q r1 r2
 have c3 := mMac_spec a (if e = 0 then (encPS p).2 else e) d.tag (condM p) (by have := ha.ml; omega) ha.mm (fun _ => hM0) (by omega) q r1 r2 g
 have hbx := mMac_boxes a (if e = 0 then (encPS p).2 else e) d.tag (condM p)
 have c4 := Clone_spec d.ticket (by omega)
 have c5 := ClipP_spec d.conds (by omega)
 unfold condP
 generalize encPS p = X at *
 obtain ⟨B, E⟩ := X
 simp only at *
 generalize condM p = M at *
 generalize (if e = 0 then E else e) = e1 at *
 obtain ⟨ti, L, tg⟩ := d
 simp only at *
 generalize mMac a e1 tg M = Y at *
 obtain ⟨a2, e3, t2⟩ := Y
 simp only at c3 hbx ⊢
 have hdA : diAV ⟨ti, L, tg⟩ = .agg [.slice none (ti.map byteAV), .slice none (L.map prAV), tagAV tg] := rfl
 have hdB : diAV ⟨ti, L ++ [p], t2⟩ = .agg [.slice none (ti.map byteAV), .slice none (L.map prAV ++ [prAV p]), tagAV t2] := by simp [diAV]
 rw [hdA, hdB]
 unfold encAV at c1
 simp only at c1
 have hb : (L.length + 1) * 56 ≤ 140737488355328 := by omega
 unfold makE at *
 simp only [List.cons_append, List.nil_append] at *
 simp only [makB_def, rowM_eq, rowB_eq, hbx] at *
 clear ha hp0 hM hMl hEl hM0 hbx hdA hdB
 refine Bd Tryz.func83 Tryz.ntmps83 fun σ N hp hpn hk hkn hfree => ?_
 simp only [List.mem_cons, List.not_mem_nil, or_false, forall_eq_or_imp, forall_eq] at hp hpn
 obtain ⟨hd1, hd2, hd3, hd4, hd5⟩ := hp
 obtain ⟨hdn1, hdn2, hdn3, hdn4, hdn5⟩ := hpn
 have hne : q ≠ r1 := by rintro rfl; rw [hd1] at hd2; cases hd2
 have hne3 : q ≠ r2 := by rintro rfl; rw [hd1] at hd3; cases hd3
 have hneg : g ≠ q := by rintro rfl; rw [hd4] at hd1; exact shaG_nbox hd1
 have hneg1 : g ≠ r1 := by rintro rfl; rw [hd4] at hd2; exact shaG_nrow hd2
 have hneh : h ≠ q := by rintro rfl; rw [hd5] at hd1; exact bitsG_nbx hd1
 have hneh1 : h ≠ r1 := by rintro rfl; rw [hd5] at hd2; exact bitsG_nrw hd2
 have hne23 : r1 ≠ r2 := by rintro rfl; rw [hd2] at hd3; simp at hd3
 have hcs := And.intro c1 (And.intro f1 (And.intro c4 (And.intro c5 (And.intro c2 (And.intro c3 True.intro)))))
 clear c1 f1 c2 c3 c4 c5
 refine Wk ?_
 refine go_resultWI [(q, (.box 203 (.agg [.agg [.lit (.bool a2.free), tagAV a2.seed, .lit (.int .i64 a2.fresh), .slice (some r1) (a2.macs.map macAV), .slice (some r2) (a.boxes.map sealAV)], .lit (.int .i64 (e3 : Int))]))), (r1, (.row 149 65 a2.macs.length))] (by simp (disch := omega) [go_sem, *, -List.reduceReplicate]; rfl) (by first | exact AV.le_refl _ | ((first | apply AV.le_slices | apply AV.le_nilsE | apply AV.le_clipE); first | rfl | (simp (disch := omega) [go_sem, *, -List.reduceReplicate]; done)) | (apply AV.sub_tup; repeat' first | exact ALe.nil | exact AV.le_refl _ | apply ALe.cons | ((first | apply AV.le_slices | apply AV.le_nilsE | apply AV.le_clipE); first | rfl | (simp (disch := omega) [go_sem, *, -List.reduceReplicate]; done))) | (apply AV.sub_agg; repeat' first | exact ALe.nil | exact AV.le_refl _ | apply ALe.cons | ((first | apply AV.le_slices | apply AV.le_nilsE | apply AV.le_clipE); first | rfl | (simp (disch := omega) [go_sem, *, -List.reduceReplicate]; done)))) (by first | rfl | (simp (disch := omega) [go_sem]; done) | (simp (disch := omega) [go_sem, *]; done) | simp (disch := omega) [go_sem]) (fun id hid => by simp only [wr_cons, wr_nil]; (by_cases hdd : id = q; (· (subst hdd; simp (disch := omega) [go_sem, *])); (· (by_cases hdd2 : id = r1; (· (subst hdd2; simp (disch := omega) [go_sem, *])); (· (simp (disch := omega) only [upd_ne]; try (first | exact hlow id hid hdd hdd2 | exact hlow id hid))))))) (by simp) (by simp (disch := omega) [go_sem, *])
omit W in
theorem dDone_ok (a : Alg) (d : Di) (q r1 r2 k : Nat) :
  ACall Tryz.prog 82 [.ptr q [] 0, diAV d] k (makE a 0 q r1 r2) (mdAV (a, d, 0)) [] := by
 have cd := Done_ok a q r1 r2
 unfold mdAV
 simp only
 unfold makE at *
 simp only [makB_def, rowM_eq, rowB_eq] at *
 refine Bd Tryz.func82 Tryz.ntmps82 fun σ N hp hpn hk hkn hfree => ?_
 simp only [List.mem_cons, List.not_mem_nil, or_false, forall_eq_or_imp, forall_eq] at hp hpn; obtain ⟨hd1, hd2, hd3⟩ := hp; obtain ⟨hdn1, hdn2, hdn3⟩ := hpn
 have hcs := And.intro cd True.intro
 clear cd
 refine Wk ?_
 exact WD
omit W in
theorem dDone_bad (a : Alg) (e : Nat) (he : e ≠ 0) (d : Di) (q r1 r2 k : Nat) :
  ACall Tryz.prog 82 [.ptr q [] 0, diAV d] k (makE a e q r1 r2) (mdAV (alg0, di0, e)) [] := by
 have cd := Done_bad a e he q r1 r2
 have h1i : ((e : Int) != 0) = true := by simp; omega
 unfold mdAV di0
 simp only [diAV, alg0_eq, List.map_nil]
 unfold makE at *
 simp only [makB_def, rowM_eq, rowB_eq, alg0_eq] at *
 obtain ⟨ti, L, tg⟩ := d
 simp only
 refine Bd Tryz.func82 Tryz.ntmps82 fun σ N hp hpn hk hkn hfree => ?_
 simp only [List.mem_cons, List.not_mem_nil, or_false, forall_eq_or_imp, forall_eq] at hp hpn; obtain ⟨hd1, hd2, hd3⟩ := hp; obtain ⟨hdn1, hdn2, hdn3⟩ := hpn
 have hcs := And.intro cd True.intro
 clear cd
 refine Wk ?_
 exact WD
def resE (d : Di) (p : Pr) : Nat := if predB p = false then 5 else if p.kind = 7 then 6 else if 8 ≤ d.conds.length then 2 else 0
theorem restrS_cond (a : Alg) (d : Di) (p : Pr) : restrS a d p = if (condP a (resE d p) d p).2.1 = 0 then ((condP a (resE d p) d p).1, (condP a (resE d p) d p).2.2, 0) else (alg0, di0, (condP a (resE d p) d p).2.1) := by
 have bad : ∀ e : Nat, e ≠ 0 → (condP a e d p).2.1 = e := fun e he => by
  unfold condP
  simp only
  rw [if_neg he, mMac_err he]
 unfold restrS resE
 by_cases h1 : predB p = false
 ·rw [if_pos h1, if_pos h1, bad 5 (by omega), if_neg (show ¬ (5 : Nat) = 0 by omega)]
 ·rw [if_neg h1, if_neg h1]
  by_cases h2 : p.kind = 7
  ·rw [if_pos h2, if_pos h2, bad 6 (by omega), if_neg (show ¬ (6 : Nat) = 0 by omega)]
  ·rw [if_neg h2, if_neg h2]
   by_cases h3 : 8 ≤ d.conds.length
   ·rw [if_pos h3, if_pos h3, bad 2 (by omega), if_neg (show ¬ (2 : Nat) = 0 by omega)]
   ·rw [if_neg h3, if_neg h3]
    have he : (encPS p).2 = 0 := by unfold encPS; rw [if_pos (by simpa using h1)]
    unfold condP
    simp only [he, if_true]
    by_cases hm : (macS a d.tag (condM p)).2.2 = 0
    ·have hM : mMac a 0 d.tag (condM p) = ((macS a d.tag (condM p)).1, 0, (macS a d.tag (condM p)).2.1) := by unfold mMac; rw [if_neg (by simp), if_pos hm]
     rw [hM, if_pos hm]; rfl
    ·have hM : mMac a 0 d.tag (condM p) = (a, (macS a d.tag (condM p)).2.2, zeroTag) := by unfold mMac; rw [if_neg (by simp), if_neg hm]
     rw [hM, if_neg hm]; simp only; rw [if_neg hm]
set_option maxHeartbeats 8000000 in
theorem Restr_spec (a : Alg) (m : Nat) (ha : AlgIn a m) (hm : m ≤ 900000) (d : Di) (hdt : d.ticket.length ≤ 100000) (hdc : d.conds.length ≤ 10000) (p : Pr) (hp0 : PrOk p) (g h : Nat) (_hgh : g ≠ h) (k : Nat) :
  ACall Tryz.prog 20 [algAV a, diAV d, prAV p] k [(g, shaG), (h, bitsG)] (mdAV (restrS a d p)) [] := by
 have cb := Begin_spec a (by have := ha.ml; omega) (by have := ha.bl; omega)
 have c1 := fun q r1 r2 => dCond_spec a m ha hm (resE d p) d hdt hdc p hp0 q r1 r2 g h
 have hbx : (condP a (resE d p) d p).1.boxes = a.boxes := mMac_boxes _ _ _ _
 have c0 := predValid_spec p hp0 h
 rw [restrS_cond]
 obtain ⟨e, he⟩ : ∃ e, resE d p = e := ⟨_, rfl⟩
 rw [he] at c1 hbx ⊢
 have cf := fun q r1 r2 => Fail_spec a 0 e q r1 r2
 generalize condP a e d p = X at *
 obtain ⟨a1, e1, d1⟩ := X
 obtain ⟨v, hv, hvi⟩ : ∃ v, (if e1 = 0 then (a1, d1, 0) else (alg0, di0, e1)) = v ∧ ∀ q r1 r2 k, ACall Tryz.prog 82 [.ptr q [] 0, diAV d1] k (makE a1 e1 q r1 r2) (mdAV v) [] := by
  by_cases h1 : e1 = 0
  ·subst h1
   exact ⟨_, if_pos rfl, fun q r1 r2 k => dDone_ok a1 d1 q r1 r2 k⟩
  ·exact ⟨_, if_neg h1, fun q r1 r2 k => dDone_bad a1 e1 h1 d1 q r1 r2 k⟩
 simp only at c1 hbx ⊢
 rw [hv]
 clear hv ha hdt hdc hp0
 obtain ⟨av, dv, ev⟩ := v
 unfold mdAV at hvi ⊢
 simp only at hvi ⊢
 obtain ⟨ti, L, tg⟩ := d
 have hdA : diAV ⟨ti, L, tg⟩ = .agg [.slice none (ti.map byteAV), .slice none (L.map prAV), tagAV tg] := rfl
 rw [hdA] at c1 ⊢
 obtain ⟨pk, pm, pf, pt, pn, px⟩ := p
 have hpA : prAV ⟨pk, pm, pf, pt, pn, px⟩ = .agg [.lit (.int .i64 pk), .lit (.int .u64 pm), .lit (.int .i64 pf), .lit (.int .i64 pt), .lit (.string ⟨pn.toArray⟩), .lit (.int .i64 px)] := rfl
 rw [hpA] at c0 c1 ⊢
 unfold resE at he
 simp only at he
 unfold makAV at cb
 unfold makE at c1 cf hvi
 simp only [List.cons_append, List.nil_append] at *
 simp only [makB_def, rowM_eq, rowB_eq, hbx, if_true] at *
 clear hbx hdA hpA
 have e05 : ((5 : Nat) : Int) = 5 := rfl
 have e06 : ((6 : Nat) : Int) = 6 := rfl
 have e02 : ((2 : Nat) : Int) = 2 := rfl
 have e00 : ((0 : Nat) : Int) = 0 := rfl
 cases hpv : predB ⟨pk, pm, pf, pt, pn, px⟩ with
 | false =>
  rw [if_pos hpv] at he
  rw [hpv] at c0
  subst he
  simp only [e00, e05] at cb c1 cf
  clear hpv
  refine Bd Tryz.func20 Tryz.ntmps20 fun σ N hp hpn hk hkn hfree => ?_
  simp only [List.mem_cons, List.not_mem_nil, or_false, forall_eq_or_imp, forall_eq] at hp hpn; obtain ⟨hd1, hd2⟩ := hp; obtain ⟨hdn1, hdn2⟩ := hpn
  have hcs := And.intro cb True.intro
  refine Wm ?_
  iterate 2 refine Wz ?_
  clear hcs
  refine go_cliprowIn (N + 6 + 1) [0, 3] 149 65 (bt := 203) (c := .agg [.agg [.lit (.bool a.free), tagAV a.seed, .lit (.int .i64 a.fresh), .clip (a.macs.map macAV), .clip (a.boxes.map sealAV)], .lit (.int .i64 ((0 : Nat) : Int))]) (xs := a.macs.map macAV) (by simp (disch := omega) [go_sem, *, -List.reduceReplicate]) rfl (all_macs1 _) ?_; refine go_cliprowIn (N + 6 + 1) [0, 4] 151 35 (bt := 203) (c := .agg [.agg [.lit (.bool a.free), tagAV a.seed, .lit (.int .i64 a.fresh), .slice (some (N + 6 + 3)) (a.macs.map macAV), .clip (a.boxes.map sealAV)], .lit (.int .i64 ((0 : Nat) : Int))]) (xs := a.boxes.map sealAV) (by simp (disch := omega) [go_sem, *, -List.reduceReplicate]) rfl (all_boxes1 _) ?_
  have hcs := And.intro c0 (And.intro (cf (N + 6 + 1) (N + 6 + 3) (N + 6 + 3 + 1)) (And.intro (c1 (N + 6 + 1) (N + 6 + 3) (N + 6 + 3 + 1)) (And.intro (hvi (N + 6 + 1) (N + 6 + 3) (N + 6 + 3 + 1)) True.intro)))
  clear c0 cb c1 cf hvi
  refine Wk ?_
  exact WD
 | true =>
  rw [if_neg (by rw [hpv]; simp)] at he
  rw [hpv] at c0
  clear hpv
  by_cases hk : pk = 7
  ·rw [if_pos hk] at he
   subst he
   simp only [e00, e06] at cb c1 cf
   refine Bd Tryz.func20 Tryz.ntmps20 fun σ N hp hpn hk hkn hfree => ?_
   simp only [List.mem_cons, List.not_mem_nil, or_false, forall_eq_or_imp, forall_eq] at hp hpn; obtain ⟨hd1, hd2⟩ := hp; obtain ⟨hdn1, hdn2⟩ := hpn
   have hcs := And.intro cb True.intro
   refine Wm ?_
   iterate 2 refine Wz ?_
   clear hcs
   refine go_cliprowIn (N + 6 + 1) [0, 3] 149 65 (bt := 203) (c := .agg [.agg [.lit (.bool a.free), tagAV a.seed, .lit (.int .i64 a.fresh), .clip (a.macs.map macAV), .clip (a.boxes.map sealAV)], .lit (.int .i64 ((0 : Nat) : Int))]) (xs := a.macs.map macAV) (by simp (disch := omega) [go_sem, *, -List.reduceReplicate]) rfl (all_macs1 _) ?_; refine go_cliprowIn (N + 6 + 1) [0, 4] 151 35 (bt := 203) (c := .agg [.agg [.lit (.bool a.free), tagAV a.seed, .lit (.int .i64 a.fresh), .slice (some (N + 6 + 3)) (a.macs.map macAV), .clip (a.boxes.map sealAV)], .lit (.int .i64 ((0 : Nat) : Int))]) (xs := a.boxes.map sealAV) (by simp (disch := omega) [go_sem, *, -List.reduceReplicate]) rfl (all_boxes1 _) ?_
   have hcs := And.intro c0 (And.intro (cf (N + 6 + 1) (N + 6 + 3) (N + 6 + 3 + 1)) (And.intro (c1 (N + 6 + 1) (N + 6 + 3) (N + 6 + 3 + 1)) (And.intro (hvi (N + 6 + 1) (N + 6 + 3) (N + 6 + 3 + 1)) True.intro)))
   clear c0 cb c1 cf hvi
   refine Wk ?_
   exact WD
  ·rw [if_neg hk] at he
   by_cases h8 : 8 ≤ L.length
   ·have h8i : (8 : Int) ≤ (L.length : Int) := by omega
    rw [if_pos h8] at he
    subst he
    simp only [e00, e02] at cb c1 cf
    refine Bd Tryz.func20 Tryz.ntmps20 fun σ N hp hpn hk hkn hfree => ?_
    simp only [List.mem_cons, List.not_mem_nil, or_false, forall_eq_or_imp, forall_eq] at hp hpn; obtain ⟨hd1, hd2⟩ := hp; obtain ⟨hdn1, hdn2⟩ := hpn
    have hcs := And.intro cb True.intro
    refine Wm ?_
    iterate 2 refine Wz ?_
    clear hcs
    refine go_cliprowIn (N + 6 + 1) [0, 3] 149 65 (bt := 203) (c := .agg [.agg [.lit (.bool a.free), tagAV a.seed, .lit (.int .i64 a.fresh), .clip (a.macs.map macAV), .clip (a.boxes.map sealAV)], .lit (.int .i64 ((0 : Nat) : Int))]) (xs := a.macs.map macAV) (by simp (disch := omega) [go_sem, *, -List.reduceReplicate]) rfl (all_macs1 _) ?_; refine go_cliprowIn (N + 6 + 1) [0, 4] 151 35 (bt := 203) (c := .agg [.agg [.lit (.bool a.free), tagAV a.seed, .lit (.int .i64 a.fresh), .slice (some (N + 6 + 3)) (a.macs.map macAV), .clip (a.boxes.map sealAV)], .lit (.int .i64 ((0 : Nat) : Int))]) (xs := a.boxes.map sealAV) (by simp (disch := omega) [go_sem, *, -List.reduceReplicate]) rfl (all_boxes1 _) ?_
    have hcs := And.intro c0 (And.intro (cf (N + 6 + 1) (N + 6 + 3) (N + 6 + 3 + 1)) (And.intro (c1 (N + 6 + 1) (N + 6 + 3) (N + 6 + 3 + 1)) (And.intro (hvi (N + 6 + 1) (N + 6 + 3) (N + 6 + 3 + 1)) True.intro)))
    clear c0 cb c1 cf hvi
    refine Wk ?_
    exact WD
   ·have h8i : ¬ (8 : Int) ≤ (L.length : Int) := by omega
    rw [if_neg h8] at he
    subst he
    simp only [e00] at cb c1 cf
    refine Bd Tryz.func20 Tryz.ntmps20 fun σ N hp hpn hk hkn hfree => ?_
    simp only [List.mem_cons, List.not_mem_nil, or_false, forall_eq_or_imp, forall_eq] at hp hpn; obtain ⟨hd1, hd2⟩ := hp; obtain ⟨hdn1, hdn2⟩ := hpn
    have hcs := And.intro cb True.intro
    refine Wm ?_
    iterate 2 refine Wz ?_
    clear hcs
    refine go_cliprowIn (N + 6 + 1) [0, 3] 149 65 (bt := 203) (c := .agg [.agg [.lit (.bool a.free), tagAV a.seed, .lit (.int .i64 a.fresh), .clip (a.macs.map macAV), .clip (a.boxes.map sealAV)], .lit (.int .i64 ((0 : Nat) : Int))]) (xs := a.macs.map macAV) (by simp (disch := omega) [go_sem, *, -List.reduceReplicate]) rfl (all_macs1 _) ?_; refine go_cliprowIn (N + 6 + 1) [0, 4] 151 35 (bt := 203) (c := .agg [.agg [.lit (.bool a.free), tagAV a.seed, .lit (.int .i64 a.fresh), .slice (some (N + 6 + 3)) (a.macs.map macAV), .clip (a.boxes.map sealAV)], .lit (.int .i64 ((0 : Nat) : Int))]) (xs := a.boxes.map sealAV) (by simp (disch := omega) [go_sem, *, -List.reduceReplicate]) rfl (all_boxes1 _) ?_
    have hcs := And.intro c0 (And.intro (c1 (N + 6 + 1) (N + 6 + 3) (N + 6 + 3 + 1)) (And.intro (hvi (N + 6 + 1) (N + 6 + 3) (N + 6 + 3 + 1)) True.intro))
    clear c0 cb c1 cf hvi
    refine Wk ?_
    exact WD
end
end Go.Proofs.YtdmjpolnbmoehaaGreatDoor

namespace Go.Proofs.YtdmjpolnbmoehaaGreatDoor
open Go.Ab
attribute [local irreducible] Go.Ab.tyAV Go.Ab.aw Go.Ab.aops Go.Ab.kReg Go.Ab.aThen Go.Ab.aBlk Go.Ab.acond Go.Ab.aguard Go.Ab.astep Go.Ab.AStepX Go.Ab.aRet
theorem age_A (n : List UInt8) (b m : Int) (h : (decide (0 ≤ m) && decide (m ≤ 67108864)) = false) (k : Nat) :
  ACall Tryz.prog 70 [persAV ⟨n, b⟩, .lit (.int .i64 m)] k [] (.lit (.int .i64 0)) [] := by
 have c1 := minutes_spec m
 rw [h] at c1
 clear h
 refine Bd Tryz.func70 Tryz.ntmps70 fun σ N hp hpn hk hkn hfree => ?_
 have hcs := And.intro c1 True.intro
 exact W0
theorem age_C (n : List UInt8) (b m w x : Int) (h : (decide (0 ≤ m) && decide (m ≤ 67108864)) = true) (hw : IntKind.i64.wrap (-b) = w) (hx : (if b < w then w else b) = x) (h2 : (decide (0 ≤ x) && decide (x ≤ 67108864)) = true) (h3 : m < b) (k : Nat) :
  ACall Tryz.prog 70 [persAV ⟨n, b⟩, .lit (.int .i64 m)] k [] (.lit (.int .i64 0)) [] := by
 have c1 := minutes_spec m
 rw [h] at c1
 have c2 := minutes_spec x
 rw [h2] at c2
 clear h h2
 refine Bd Tryz.func70 Tryz.ntmps70 fun σ N hp hpn hk hkn hfree => ?_
 have hcs := And.intro c1 (And.intro c2 True.intro)
 exact W0
theorem age_D (n : List UInt8) (b m w x r : Int) (h : (decide (0 ≤ m) && decide (m ≤ 67108864)) = true) (hw : IntKind.i64.wrap (-b) = w) (hx : (if b < w then w else b) = x) (h2 : (decide (0 ≤ x) && decide (x ≤ 67108864)) = true) (h3 : ¬ m < b) (h4 : -67108864 ≤ b) (h5 : m ≤ 67108864)
  (hr : (if (150 : Int) < (m - b).tdiv 525600 then (150 : Int) else (m - b).tdiv 525600) = r) (k : Nat) :
  ACall Tryz.prog 70 [persAV ⟨n, b⟩, .lit (.int .i64 m)] k [] (.lit (.int .i64 r)) [] := by
 have c1 := minutes_spec m
 rw [h] at c1
 have c2 := minutes_spec x
 rw [h2] at c2
 have hwr : IntKind.i64.wrap (m - b) = m - b := wrap_i64 (by omega) (by omega)
 have hq : (m - b).tdiv 525600 = (m - b) / 525600 := Int.tdiv_eq_ediv_of_nonneg (by omega)
 rw [hq] at hr
 clear h h2
 refine Bd Tryz.func70 Tryz.ntmps70 fun σ N hp hpn hk hkn hfree => ?_
 have hcs := And.intro c1 (And.intro c2 True.intro)
 exact W0
theorem Age_spec (n : List UInt8) (b m : Int) (w : (Lit.int .i64 b).wf = true) (k : Nat) :
  ACall Tryz.prog 70 [persAV ⟨n, b⟩, .lit (.int .i64 m)] k [] (.lit (.int .i64 (ageS b m))) [] := by
 have wb : -9223372036854775808 ≤ b ∧ b ≤ 9223372036854775807 := i64_of_wf w
 unfold ageS
 by_cases h1 : m < 0 ∨ 67108864 < m
 ·rw [if_pos (by unfold ageBad; omega)]
  refine age_A n b m ?_ k
  rw [Bool.and_eq_false_iff, decide_eq_false_iff_not, decide_eq_false_iff_not]; omega
 ·have hm : (decide (0 ≤ m) && decide (m ≤ 67108864)) = true := by
   rw [Bool.and_eq_true, decide_eq_true_iff, decide_eq_true_iff]; omega
  by_cases h2 : b < -67108864 ∨ 67108864 < b
  ·rw [if_pos (by unfold ageBad; omega)]
   by_cases h3 : b = -9223372036854775808
   ·subst h3
    refine age_B n _ m (-9223372036854775808) (-9223372036854775808) hm (by decide +kernel) (by decide +kernel) (by decide +kernel) k
   ·refine age_B n b m (-b) (if b < -b then -b else b) hm (wrap_i64 (by omega) (by omega)) rfl ?_ k
    rw [Bool.and_eq_false_iff, decide_eq_false_iff_not, decide_eq_false_iff_not]; split <;> omega
  ·have hx : (decide (0 ≤ (if b < -b then -b else b)) && decide ((if b < -b then -b else b) ≤ 67108864)) = true := by
    rw [Bool.and_eq_true, decide_eq_true_iff, decide_eq_true_iff]; split <;> omega
   by_cases h3 : m < b
   ·rw [if_pos (by unfold ageBad; omega)]
    exact age_C n b m (-b) _ hm (wrap_i64 (by omega) (by omega)) rfl hx h3 k
   ·rw [if_neg (by unfold ageBad; omega)]
    refine age_D n b m (-b) _ _ hm (wrap_i64 (by omega) (by omega)) rfl hx h3 (by omega) (by omega) ?_ k
    rw [Int.tdiv_eq_ediv_of_nonneg (by omega)]
    split <;> split <;> omega
end Go.Proofs.YtdmjpolnbmoehaaGreatDoor

namespace Go.Proofs.YtdmjpolnbmoehaaGreatDoor
open Go.Ab
attribute [local irreducible] Go.Ab.tyAV Go.Ab.aw Go.Ab.aops Go.Ab.kReg Go.Ab.aThen Go.Ab.aBlk Go.Ab.acond Go.Ab.aguard Go.Ab.astep Go.Ab.AStepX Go.Ab.aRet
attribute [local irreducible] shaG
theorem Same_refl (b : List UInt8) (hb : b.length ≤ 140737488351232) (k : Nat) : ACall Tryz.prog 69 [.slice none (b.map byteAV), .slice none (b.map byteAV)] k [] (.lit (.bool true)) [] := by
 have := Same_spec b b hb k
 rw [decide_eq_true rfl] at this
 exact this
set_option maxHeartbeats 1000000 in
theorem SameAlg_refl (a : Alg) (m : Nat) (ha : AlgIn a m) (hm : m ≤ 1000000) (k : Nat) :
  ACall Tryz.prog 22 [algAV a, algAV a] k [] (.lit (.bool true)) [] := by
 obtain ⟨fr, sd, fs, L, B⟩ := a
 have hL := ha.ml
 have hB := ha.bl
 have hmm := ha.mm
 have hbm := ha.bm
 simp only at hL hB hmm hbm
 clear ha
 simp only [algAV]
 refine Bd Tryz.func22 Tryz.ntmps22 fun σ N hp hpn hk hkn hfree => ?_
 refine Wk ?_
 refine go_loopF mixed (by kernel_rfl) (4 :: 5 :: 46 :: 47 :: 48 :: 49 :: 50 :: 51 :: 52 :: 53 :: 54 :: 55 :: 56 :: 57 :: 58 :: 59 :: 60 :: 61 :: 62 :: 63 :: 64 :: 65 :: 66 :: 67 :: 68 :: 69 :: 70 :: 71 :: 72 :: 73 :: 74 :: 75 :: 76 :: 77 :: 78 :: 79 :: 80 :: 81 :: 82 :: 83 :: 84 :: 85 :: 86 :: 87 :: 88 :: 89 :: 90 :: 91 :: 92 :: 93 :: 94 :: 95 :: 96 :: []) [N, N+1] (fun m_ s_ σ_ n_ => ∃ (u : Nat), m_ = L.length - u ∧ s_ 5 = .lit (.int .i64 u) ∧ σ_ (N) = .box 38 (.agg [.lit (.bool fr), tagAV sd, .lit (.int .i64 fs), .slice none (L.map macAV), .slice none (B.map sealAV)]) ∧ σ_ (N+1) = .box 38 (.agg [.lit (.bool fr), tagAV sd, .lit (.int .i64 fs), .slice none (L.map macAV), .slice none (B.map sealAV)]) ∧ (u ≤ L.length)) ⟨_, 0, rfl, WF, WF, WF, WC⟩ ?_
 intro m_1 s_1 σ_1 n_1 hs_1 hf_1 hn_1 hI_1
 obtain ⟨u, hm_1, h1_5, e1_0, e1_1, hu⟩ := hI_1
 have h1_2 := KS hs_1 2
 have h1_3 := KS hs_1 3
 have hlow := KL (N := N) (σ := σ) hf_1
 by_cases hul : u = L.length
 ·subst hul
  refine Wk ?_
  refine go_loopF mixed (by kernel_rfl) [4, 6, 7, 8, 97, 98, 99, 100, 101, 102, 103, 104, 105, 106, 107, 108, 109, 110, 111, 112, 113, 114, 115, 116, 117, 118, 119, 120, 121, 122, 123, 124, 125, 126, 127, 128, 129, 130, 131, 132, 133, 134, 135, 136, 137, 138, 139, 140, 141] [N, N+1] (fun m_ s_ σ_ n_ => ∃ (v : Nat), m_ = B.length - v ∧ s_ 6 = .lit (.int .i64 v) ∧ σ_ (N) = .box 38 (.agg [.lit (.bool fr), tagAV sd, .lit (.int .i64 fs), .slice none (L.map macAV), .slice none (B.map sealAV)]) ∧ σ_ (N+1) = .box 38 (.agg [.lit (.bool fr), tagAV sd, .lit (.int .i64 fs), .slice none (L.map macAV), .slice none (B.map sealAV)]) ∧ (v ≤ B.length)) ⟨_, 0, rfl, WF, WF, WF, WC⟩ ?_
  intro m_2 s_2 σ_2 n_2 hs_2 hf_2 hn_2 hI_2
  obtain ⟨v, hm_2, h2_6, e2_0, e2_1, hv⟩ := hI_2
  have h2_2 := KS hs_2 2
  have h2_3 := KS hs_2 3
  have hlow := KL (N := N) (σ := σ) hf_2
  by_cases hvl : v = B.length
  ·subst hvl
   exact W0
  ·have hv1 : v < B.length := by omega
   have hmz := hbm _ (List.getElem_mem hv1)
   obtain ⟨z, hz⟩ : ∃ z, B[v] = z := ⟨_, rfl⟩
   rw [hz] at hmz
   obtain ⟨zk, zn, zp, zb⟩ := z
   simp only at hmz
   have hzd : sealAV ⟨zk, zn, zp, zb⟩ = .agg [tagAV zk, .lit (.int .i64 zn), bAV zp, bAV zb] := rfl
   have hzb := bAV_def zp
   have hzb2 := bAV_def zb
   have c1 := Same_refl zp (by omega)
   have c2 := Same_refl zb (by omega)
   have hcs := And.intro c1 (And.intro c2 True.intro)
   clear c1 c2 hmm hbm
   refine Wk ?_
   exact ⟨WS, WG, WN, _, (show B.length - (v + 1) < m_2 by omega), v + 1, rfl, WF, WF, WF, WC⟩
 ·have hu1 : u < L.length := by omega
  have hmz := hmm _ (List.getElem_mem hu1)
  obtain ⟨z, hz⟩ : ∃ z, L[u] = z := ⟨_, rfl⟩
  rw [hz] at hmz
  obtain ⟨zk, zm, zt⟩ := z
  simp only at hmz
  have hzd : macAV ⟨zk, zm, zt⟩ = .agg [tagAV zk, bAV zm, tagAV zt] := rfl
  have hzb := bAV_def zm
  have c1 := Same_refl zm (by omega)
  have hcs := And.intro c1 True.intro
  clear c1 hmm hbm
  refine Wk ?_
  exact ⟨WS, WG, WN, _, (show L.length - (u + 1) < m_1 by omega), u + 1, rfl, WF, WF, WF, WC⟩
theorem SameDis_refl (p : Di) (hp : p.ticket.length ≤ 100000000) (hc : p.conds.length ≤ 100000) (k : Nat) :
  ACall Tryz.prog 23 [diAV p, diAV p] k [] (.lit (.bool true)) [] := by
 have c1 := Same_refl p.ticket (by omega)
 have c2 := SamePredicates_refl p.conds hc
 obtain ⟨ti, L, tg⟩ := p
 unfold diAV
 simp only at c1 c2 ⊢
 refine Bd Tryz.func23 Tryz.ntmps23 fun σ N hp hpn hk hkn hfree => ?_
 have hcs := And.intro c1 (And.intro c2 True.intro)
 clear c1 c2
 exact W0
end Go.Proofs.YtdmjpolnbmoehaaGreatDoor

namespace Go.Proofs.YtdmjpolnbmoehaaGreatDoor
open Go.Ab
attribute [local irreducible] Go.Ab.tyAV Go.Ab.aw Go.Ab.aops Go.Ab.kReg Go.Ab.aThen Go.Ab.aBlk Go.Ab.acond Go.Ab.aguard Go.Ab.astep Go.Ab.AStepX Go.Ab.aRet
end Go.Proofs.YtdmjpolnbmoehaaGreatDoor
