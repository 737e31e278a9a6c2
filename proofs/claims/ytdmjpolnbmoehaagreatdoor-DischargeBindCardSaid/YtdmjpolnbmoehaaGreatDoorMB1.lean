/- Texts C1p, C2p, C3p, C4p, C5p, Fp, N1p, K3p, R2p, K7p, Q5, W1, joined. -/
import Derived.Test.YtdmjpolnbmoehaaGreatDoorMS1

namespace Go.Ab
open Go.RowKit
theorem byte_of_wf {a : Int} (h : (Lit.int .u8 a).wf = true) : ∃ b : UInt8, AV.lit (.int .u8 a) = byteAV b ∧ a = (b.toNat : Int) := by
 have hw : IntKind.u8.min ≤ a ∧ a ≤ IntKind.u8.max := by simpa [Lit.wf] using h
 have e1 : IntKind.u8.min = 0 := by decide
 have e2 : IntKind.u8.max = 255 := by decide
 obtain ⟨n, rfl⟩ := Int.eq_ofNat_of_zero_le (show 0 ≤ a by omega)
 refine ⟨UInt8.ofNat n, ?_, ?_⟩
 ·simp only [byteAV]
  rw [UInt8.toNat_ofNat', Nat.mod_eq_of_lt (by omega)]
 ·rw [UInt8.toNat_ofNat', Nat.mod_eq_of_lt (by omega)]

theorem bytes_of_ints (zs : List Int) (h : ∀ n ∈ zs, (Lit.int .u8 n).wf = true) : ∃ bs : List UInt8, bs.length = zs.length ∧ zs.map (fun z => AV.lit (.int .u8 z)) = bs.map byteAV := by
 refine ⟨zs.map fun z => UInt8.ofNat z.toNat, by simp, ?_⟩
 rw [List.map_map]
 refine List.map_congr_left fun z hz => ?_
 have := h z hz
 simp only [Lit.wf, Function.comp, byteAV] at this ⊢
 congr 2
 rw [UInt8.toNat_ofNat']
 have hw : IntKind.u8.min ≤ z ∧ z ≤ IntKind.u8.max := by simpa using this
 have e1 : IntKind.u8.min = 0 := by decide
 have e2 : IntKind.u8.max = 255 := by decide
 omega
end Go.Ab

namespace Go.Ab
open Go.RowKit Go.ChangeShapes
def layB (P : Program) : List Field → Nat → Nat → Bool
 | [], off, tot => off == tot
 | f :: fs, off, tot => f.offset == off && layB P fs (off + P.cellsOf f.type) tot
def dataTy (P : Program) : Nat → TypeId → Bool
 | 0, _ => false
 | m + 1, t => match P.underlying t with
  | some .bool => P.cellsOf t == 1
  | some (.int _) => P.cellsOf t == 1
  | some .string => P.cellsOf t == 1
  | some (.slice e) => dataTy P m e && decide (0 < P.cellsOf e) && P.cellsOf t == 1
  | some (.array n e) => dataTy P m e && P.cellsOf t == n * P.cellsOf e
  | some (.struct fs) => (fs.toList.all fun f => dataTy P m f.type) && layB P fs.toList 0 (P.cellsOf t)
  | _ => false
def aggT (P : Program) (t : TypeId) : Bool :=
 match P.underlying t with
 | some (.array _ _) | some (.struct _) => true
 | _ => false
theorem range_mapM_cells {w : World} {a : Addr} {n : Nat} {cs : List Value} (h : (List.range n).mapM (fun i => w.cell? (a.add i)) = some cs) : cs.length = n ∧ ∀ (i : Nat) (v : Value), cs[i]? = some v → w.cell? (a.add i) = some v := by
 have hl := mapM_some_length h
 refine ⟨by simpa using hl, fun i v hv => ?_⟩
 have hi : i < n := by have := (List.getElem?_eq_some_iff.1 hv).1; simp at hl; omega
 have := mapM_some_get h i i (by simp [hi])
 rw [this]; exact hv
theorem flat_pieces {cs : List Value} {size : Nat} : ∀ (vs : List Value), cs.length = vs.length * size → (∀ (i : Nat) (v : Value), vs[i]? = some v → v.cells.toList = (cs.drop (i * size)).take size) → flat vs = cs
 | [], hl, _ => by
  simp at hl
  subst hl; rfl
 | v :: vs, hl, h => by
  have h0 := h 0 v rfl
  simp only [Nat.zero_mul, List.drop_zero] at h0
  rw [flat_cons, h0]
  simp only [List.length_cons, Nat.add_mul, Nat.one_mul] at hl
  have ih := flat_pieces (cs := cs.drop size) (size := size) vs (by rw [List.length_drop]; omega) fun i u hu => by
   have := h (i + 1) u (by simpa using hu)
   rw [this, List.drop_drop]
   congr 2
   rw [Nat.add_mul]; omega
  rw [ih, List.take_append_drop]
theorem flat_fields {P : Program} {cs : List Value} : ∀ (fs : List Field) (vs : List Value) (off : Nat), layB P fs off cs.length = true → vs.length = fs.length → off ≤ cs.length → (∀ (i : Nat) (f : Field) (v : Value), fs[i]? = some f → vs[i]? = some v → v.cells.toList = (cs.drop f.offset).take (P.cellsOf f.type) ∧ v.cells.size = P.cellsOf f.type) → flat vs = cs.drop off
 | [], vs, off, hl, hv, hle, _ => by
  cases vs with
  | nil =>
   simp only [layB, beq_iff_eq] at hl
   rw [hl, List.drop_length]; rfl
  | cons => simp at hv
 | f :: fs, vs, off, hl, hv, hle, h => by
  cases vs with
  | nil => simp at hv
  | cons v vs =>
   simp only [layB, Bool.and_eq_true, beq_iff_eq] at hl
   obtain ⟨h1, h2⟩ := h 0 f v rfl rfl
   have hsz : ((cs.drop off).take (P.cellsOf f.type)).length = P.cellsOf f.type := by rw [← hl.1, ← h1, Array.length_toList, h2]
   rw [List.length_take, List.length_drop] at hsz
   have ih := flat_fields (P := P) (cs := cs) fs vs (off + P.cellsOf f.type) hl.2 (by simpa using hv) (by omega) fun i g u hg hu => h (i + 1) g u (by simpa using hg) (by simpa using hu)
   rw [flat_cons, h1, hl.1, ih, ← List.drop_drop, List.take_append_drop]
theorem list_of {α : Type} {Q : Nat → α → Prop} : ∀ n, (∀ i, i < n → ∃ p, Q i p) → ∃ l : List α, l.length = n ∧ ∀ (i : Nat) (p : α), l[i]? = some p → Q i p
 | 0, _ => ⟨[], rfl, fun i p h => by simp at h⟩
 | n + 1, h => by
  obtain ⟨l, hl, hq⟩ := list_of n fun i hi => h i (by omega)
  obtain ⟨p, hp⟩ := h n (by omega)
  refine ⟨l ++ [p], by simp [hl], fun i q hq' => ?_⟩
  by_cases hi : i < l.length
  ·rw [List.getElem?_append_left hi] at hq'; exact hq i q hq'
  ·rw [List.getElem?_append_right (by omega)] at hq'
   have : i - l.length = 0 := by
    have := (List.getElem?_eq_some_iff.1 hq').1
    simp at this; omega
   rw [this] at hq'
   simp at hq'
   subst hq'
   have : i = n := by omega
   rw [this]; exact hp
theorem weightsAll_mem {H : Type} {P : Program} {e : TypeId} : ∀ {ds : List (DataW H)} {i : Nat} {d : DataW H}, ds[i]? = some d → ∀ n ∈ d.weights P e, n ∈ DataW.weightsAll P e ds
 | d0 :: r, 0, d, h, n, hn => by
  simp only [List.getElem?_cons_zero, Option.some.injEq] at h
  subst h
  simp only [DataW.weightsAll, List.mem_append]
  exact .inl hn
 | d0 :: r, i + 1, d, h, n, hn => by
  simp only [List.getElem?_cons_succ] at h
  simp only [DataW.weightsAll, List.mem_append]
  exact .inr (weightsAll_mem h n hn)
 | [], _, _, h, _, _ => by simp at h
section
variable {H : Type} {enc : TypeId × Value → H} {P : Program} {w : World} {base : Nat} {spare : Nat → Bool} {held : Bool}
theorem trod_rep : ∀ (m : Nat) (t : TypeId), dataTy P m t = true → ∀ (fuel : Nat) (cs : List Value) (x : DataW H × List MemPlace), DataW.trod enc P w base spare held fuel t cs = some x → (∀ n ∈ x.1.weights P t, n ≤ 140737488351232) →
  ∃ (p : AV × Value), p.2.cells.toList = cs ∧ Rep (g0 w) p.1 p.2 ∧ tyAV P m t p.1 ∧ p.2.cells.size = P.cellsOf t ∧ valAgg p.2 = aggT P t ∧ valTup p.2 = false
 | 0, _, h => by simp [dataTy] at h
 | m + 1, t, h => by
  intro fuel cs x hx hw0
  unfold dataTy at h
  unfold tyAV aggT
  split at h
  ·rename_i ht
   obtain ⟨b, rfl, rfl⟩ := DataW.trod_bool ht hx
   simp only [ht]
   exact ⟨(.lit (.bool b), .bool b), rfl, .lit _ rfl, ⟨b, rfl⟩, by simpa [Value.cells] using (beq_iff_eq.1 h).symm, rfl, rfl⟩
  ·rename_i k ht
   obtain ⟨n, rfl, rfl, hw⟩ := DataW.trod_int ht hx
   simp only [ht]
   exact ⟨(.lit (.int k n), .int k n), rfl, .lit _ rfl, ⟨n, rfl, hw⟩, by simpa [Value.cells] using (beq_iff_eq.1 h).symm, rfl, rfl⟩
  ·rename_i ht
   obtain ⟨s, rfl, rfl, hw⟩ := DataW.trod_string ht hx
   simp only [ht]
   refine ⟨(.lit (.string s), .string s), rfl, .lit _ rfl, ⟨s.data.toList, by simp, ?_⟩, by simpa [Value.cells] using (beq_iff_eq.1 h).symm, rfl, rfl⟩
   unfold maxLen at hw
   have : s.data.toList.length = s.size := by simp
   omega
  ·rename_i e ht
   simp only [Bool.and_eq_true, decide_eq_true_eq, beq_iff_eq] at h
   obtain ⟨⟨h1, h2⟩, h3⟩ := h
   simp only [ht]
   rcases DataW.trod_slice ht hx with ⟨rfl, rfl⟩ | ⟨a, len, cap, elems, rest, n, _, rfl, rfl, hba, hlc, hcm, hel, hcell, _⟩
   ·exact ⟨(.slice none [], .slice none 0 0), rfl, AV.le_nils0 _ _ .nils, ⟨[], rfl, by simp, (fun y hy => by cases hy), by simp⟩, by simp [Value.cells, h3], rfl, rfl⟩
   ·have hwu : (DataW.slice (elems.map (·.1)) (rest.map (·.1))).weights P t = ((elems.map (·.1)).length + (rest.map (·.1)).length) * P.bytesOf e :: (DataW.weightsAll P e (elems.map (·.1)) ++ DataW.weightsAll P e (rest.map (·.1))) := by simp only [DataW.weights, ht]
    simp only [hwu] at hw0
    have hwl : len * P.bytesOf e ≤ 140737488351232 := Nat.le_trans (Nat.mul_le_mul_right _ (by rw [List.length_map, hel]; omega)) (hw0 _ (List.mem_cons_self ..))
    have hwe : ∀ (i : Nat) (z : DataW H × List MemPlace), elems[i]? = some z → ∀ n ∈ z.1.weights P e, n ≤ 140737488351232 := fun i z hz n hn =>
     hw0 n (List.mem_cons_of_mem _ (List.mem_append_left _ (weightsAll_mem (i := i) (by rw [List.getElem?_map, hz]; rfl) n hn)))
    obtain ⟨l, hl, hq⟩ := list_of (Q := fun i (p : AV × Value) => Rep (g0 w) p.1 p.2 ∧ tyAV P m e p.1 ∧ p.2.cells.size = P.cellsOf e ∧ ∀ (j : Nat) (v : Value), p.2.cells.toList[j]? = some v → w.cell? ((a.add (i * P.cellsOf e)).add j) = some v) len fun i hi => by
     have hc := hcell i hi
     have hei : elems[i]? = some elems[i] := List.getElem?_eq_getElem (by omega)
     rw [hei] at hc
     simp only [Option.bind_eq_some_iff] at hc
     obtain ⟨cs, hcs, hd⟩ := hc
     unfold World.cells? at hcs
     split at hcs
     ·obtain ⟨hcl, hcc⟩ := range_mapM_cells hcs
      obtain ⟨p, p1, p2, p3, p4, p5, p6⟩ := trod_rep m e h1 n cs _ hd (hwe i _ hei)
      exact ⟨p, p2, p3, p4, by rw [p1]; exact hcc⟩
     ·cases hcs
    have hlen : (l.map (·.1)).length = len := by simp [hl]
    have hsz : ∀ v ∈ l.map (·.2), v.cells.size = P.cellsOf e := fun v hv => by
     obtain ⟨p, hp, rfl⟩ := List.mem_map.1 hv
     obtain ⟨i, hi⟩ := List.getElem?_of_mem hp
     exact (hq i p hi).2.2.1
    have hrep := Rep.slice (g := g0 w) none (l.map (·.1)) (l.map (·.2)) (some a) cap (P.cellsOf e) (by simp) (by rw [hlen]; exact hlc) hcm
     (fun i x v hx hv => by
      rw [List.getElem?_map] at hx hv
      cases hli : l[i]? with
      | none => rw [hli] at hx; cases hx
      | some p => rw [hli] at hx hv; cases hx; cases hv; exact (hq i p hli).1) hsz
     (by
      rw [hlen]
      by_cases h0 : len = 0
      ·exact .inl h0
      ·right
       have hl0 : l[0]? = some l[0] := List.getElem?_eq_getElem (by omega)
       obtain ⟨_, _, q3, q4⟩ := hq 0 _ hl0
       have hc0 : 0 < (l[0]).2.cells.toList.length := by rw [Array.length_toList, q3]; exact h2
       have hcell0 := q4 0 _ (List.getElem?_eq_getElem hc0)
       have hspot : a.spot = none := by
        have := World.cell?_spot hcell0
        simpa [Addr.add] using this
       obtain ⟨b, off, sp⟩ := a
       simp only at hspot
       subst hspot
       have hb : b < w.heap.size := by
        rw [Addr.add_lit, Addr.add_lit] at hcell0
        rcases Nat.lt_or_ge b w.heap.size with h | h
        ·exact h
        ·exfalso
         simp [World.cell?, Array.getElem?_eq_none h] at hcell0
       refine ⟨b, off, rfl, fun j u hu => ?_⟩
       simp only [g0, if_pos hb]
       have hflen : (flat (l.map (·.2))).length = len * P.cellsOf e := by rw [flat_length _ _ hsz, List.length_map, hl]
       have hj : j < len * P.cellsOf e := by rw [← hflen]; exact (List.getElem?_eq_some_iff.1 hu).1
       have hi : j / P.cellsOf e < len := by rw [Nat.div_lt_iff_lt_mul h2]; exact hj
       have hli : l[j / P.cellsOf e]? = some l[j / P.cellsOf e] := List.getElem?_eq_getElem (by omega)
       obtain ⟨_, _, r3, r4⟩ := hq _ _ hli
       have hjm : j % P.cellsOf e < (l[j / P.cellsOf e]).2.cells.toList.length := by rw [Array.length_toList, r3]; exact Nat.mod_lt _ h2
       have hat := flat_at (l.map (·.2)) (P.cellsOf e) hsz (j / P.cellsOf e) (l[j / P.cellsOf e]).2 (by rw [List.getElem?_map, hli]; rfl) (j % P.cellsOf e) _ (List.getElem?_eq_getElem hjm)
       have hsplit : j / P.cellsOf e * P.cellsOf e + j % P.cellsOf e = j := by rw [Nat.mul_comm]; exact Nat.div_add_mod j (P.cellsOf e)
       rw [hsplit, hu] at hat
       have hcl := r4 (j % P.cellsOf e) u (by rw [List.getElem?_eq_getElem hjm]; exact hat.symm)
       rw [Addr.add_lit, Addr.add_lit] at hcl
       rw [← hcl]
       congr 2
       omega) (fun id hid => by cases hid)
    rw [hlen] at hrep
    refine ⟨(.slice none (l.map (·.1)), .slice (some a) len cap), rfl, hrep, ⟨_, rfl, by rw [hlen]; unfold maxLen at hcm; omega, fun y hy => ?_, by rw [hlen]; exact hwl⟩, by simp [Value.cells, h3], rfl, rfl⟩
    obtain ⟨p, hp, rfl⟩ := List.mem_map.1 hy
    obtain ⟨i, hi⟩ := List.getElem?_of_mem hp
    exact (hq i p hi).2.1
  ·rename_i n e ht
   simp only [Bool.and_eq_true, beq_iff_eq] at h
   obtain ⟨h1, h2⟩ := h
   obtain ⟨xs, q, _, rfl, hl, hxl, hf⟩ := DataW.trod_array ht hx
   have hwu : (DataW.agg (xs.map (·.1))).weights P t = DataW.weightsAll P e (xs.map (·.1)) := by simp only [DataW.weights, ht]
   simp only [hwu] at hw0
   have hwe : ∀ (i : Nat) (z : DataW H × List MemPlace), xs[i]? = some z → ∀ n ∈ z.1.weights P e, n ≤ 140737488351232 := fun i z hz n hn =>
    hw0 n (weightsAll_mem (i := i) (by rw [List.getElem?_map, hz]; rfl) n hn)
   simp only [ht]
   obtain ⟨l, hll, hq⟩ := list_of (Q := fun i (p : AV × Value) => Rep (g0 w) p.1 p.2 ∧ tyAV P m e p.1 ∧ p.2.cells.size = P.cellsOf e ∧ p.2.cells.toList = (cs.drop (i * P.cellsOf e)).take (P.cellsOf e)) n fun i hi => by
    have hd := hf i hi
    have hxi : xs[i]? = some (xs[i]'(by omega)) := List.getElem?_eq_getElem (by omega)
    rw [hxi] at hd
    obtain ⟨p, p1, p2, p3, p4, p5, p6⟩ := trod_rep m e h1 q _ _ hd (hwe i _ hxi)
    exact ⟨p, p2, p3, p4, p1⟩
   have hfl : flat (l.map (·.2)) = cs := flat_pieces (size := P.cellsOf e) _ (by rw [hl, h2, List.length_map, hll]) fun i v hv => by
    rw [List.getElem?_map] at hv
    cases hli : l[i]? with
    | none => rw [hli] at hv; cases hv
    | some p => rw [hli] at hv; cases hv; exact (hq i p hli).2.2.2
   refine ⟨(.agg (l.map (·.1)), .agg (flat (l.map (·.2))).toArray), by rw [hfl]; rfl, .agg _ _ (by simp) (fun i x v hx hv => ?_), ⟨_, rfl, by simp [hll], fun y hy => ?_⟩, by simp [Value.cells, hfl, hl], rfl, rfl⟩
   ·rw [List.getElem?_map] at hx hv
    cases hli : l[i]? with
    | none => rw [hli] at hx; cases hx
    | some p => rw [hli] at hx hv; cases hx; cases hv; exact (hq i p hli).1
   ·obtain ⟨p, hp, rfl⟩ := List.mem_map.1 hy
    obtain ⟨i, hi⟩ := List.getElem?_of_mem hp
    exact (hq i p hi).2.1
  ·rename_i fs ht
   simp only [Bool.and_eq_true, List.all_eq_true] at h
   obtain ⟨h1, h2⟩ := h
   obtain ⟨xs, q, _, rfl, hl, hxl, hf⟩ := DataW.trod_struct ht hx
   have hwu : (DataW.agg (xs.map (·.1))).weights P t = DataW.weightsEach P (fs.toList.map (·.type)) (xs.map (·.1)) := by simp only [DataW.weights, ht]
   simp only [hwu] at hw0
   have hwe : ∀ (i : Nat) (f : Field) (z : DataW H × List MemPlace), fs[i]? = some f → xs[i]? = some z → ∀ n ∈ z.1.weights P f.type, n ≤ 140737488351232 := fun i f z hf hz n hn =>
    hw0 n (DataW.weights_mem_each (j := i) (t := f.type) (by rw [List.getElem?_map, Array.getElem?_toList, hf]; rfl) (by rw [List.getElem?_map, hz]; rfl) n hn)
   simp only [ht]
   obtain ⟨l, hll, hq⟩ := list_of (Q := fun i (p : AV × Value) => ∀ f, fs[i]? = some f → Rep (g0 w) p.1 p.2 ∧ tyAV P m f.type p.1 ∧ p.2.cells.size = P.cellsOf f.type ∧ p.2.cells.toList = (cs.drop f.offset).take (P.cellsOf f.type)) fs.size fun i hi => by
    have hfi : fs[i]? = some fs[i] := by simp [hi]
    have hd := hf i _ hfi
    have hxi : xs[i]? = some (xs[i]'(by omega)) := List.getElem?_eq_getElem (by omega)
    rw [hxi] at hd
    obtain ⟨p, p1, p2, p3, p4, p5, p6⟩ := trod_rep m (fs[i]).type (h1 _ (Array.getElem_mem_toList hi)) q _ _ hd (hwe i _ _ hfi hxi)
    exact ⟨p, fun f hf' => by rw [hfi] at hf'; cases hf'; exact ⟨p2, p3, p4, p1⟩⟩
   have hfl : flat (l.map (·.2)) = cs := by
    have := flat_fields (P := P) (cs := cs) fs.toList (l.map (·.2)) 0 (by rw [hl]; exact h2) (by simp [hll]) (Nat.zero_le _) fun i f v hf' hv => by
     rw [List.getElem?_map] at hv
     cases hli : l[i]? with
     | none => rw [hli] at hv; cases hv
     | some p =>
      rw [hli] at hv; cases hv
      obtain ⟨_, _, q3, q4⟩ := hq i p hli f (by simpa using hf')
      exact ⟨q4, q3⟩
    simpa using this
   have hat : ∀ (i : Nat) (p : AV × Value), l[i]? = some p → ∃ f, fs[i]? = some f := fun i p hp => by
    have : i < fs.size := by have := (List.getElem?_eq_some_iff.1 hp).1; omega
    exact ⟨fs[i], by simp [this]⟩
   refine ⟨(.agg (l.map (·.1)), .agg (flat (l.map (·.2))).toArray), by rw [hfl]; rfl, .agg _ _ (by simp) (fun i x v hx hv => ?_), ⟨_, rfl, by simp [hll], fun i f y hf' hy => ?_⟩, by simp [Value.cells, hfl, hl], rfl, rfl⟩
   ·rw [List.getElem?_map] at hx hv
    cases hli : l[i]? with
    | none => rw [hli] at hx; cases hx
    | some p =>
     rw [hli] at hx hv; cases hx; cases hv
     obtain ⟨f, hf'⟩ := hat i p hli
     exact (hq i p hli f hf').1
   ·rw [List.getElem?_map] at hy
    cases hli : l[i]? with
    | none => rw [hli] at hy; cases hy
    | some p => rw [hli] at hy; cases hy; exact (hq i p hli f hf').2.1
  ·cases h
theorem open_any {m : Nat} {t : TypeId} {v : Value} {d : DataW H} {ps : List MemPlace} {r : Reach} {b0 : Nat} (ht : dataTy P m t = true) (hval : Value.okWide P w r b0 t v) (hd : DataW.Trod enc P w base spare held t v d ps) (hw : ∀ n ∈ d.weights P t, n ≤ 140737488351232) : ∃ x, Rep (g0 w) x v ∧ tyAV P m t x := by
 obtain ⟨fuel, hf⟩ := hd
 obtain ⟨p, p1, p2, p3, p4, p5, p6⟩ := trod_rep m t ht fuel _ _ hf hw
 have hv : p.2 = v := by
  unfold Value.okWide at hval
  cases ha : aggT P t with
  | true =>
   have hag : ∃ cs, v = .agg cs := by
    unfold aggT at ha
    split at ha
    ·rename_i h; rw [h] at hval; exact ⟨_, hval.choose_spec.1⟩
    ·rename_i h; rw [h] at hval; exact ⟨_, hval.choose_spec.1⟩
    ·cases ha
   obtain ⟨cs, rfl⟩ := hag
   rw [ha] at p5
   cases hp : p.2 <;> rw [hp] at p5 <;> simp [valAgg] at p5
   rename_i cs'
   rw [hp] at p1
   simp only [Value.cells] at p1
   congr 1
   exact Array.ext' p1
  | false =>
   rw [ha] at p5
   have hna : valAgg v = false := by
    cases v <;> try rfl
    rename_i cs
    exfalso
    obtain ⟨m', rfl⟩ : ∃ k, m = k + 1 := by cases m with
     | zero => simp [dataTy] at ht
     | succ k => exact ⟨k, rfl⟩
    unfold dataTy at ht
    unfold aggT at ha
    split at ht <;> first | (cases ht; done) | (rename_i h; rw [h] at ha hval; simp [Cell.okWide, Cell.ok] at ha hval; done)
   have c1 : ∀ u : Value, valAgg u = false → u.cells = #[u] := fun u hu => by cases u <;> simp_all [valAgg, Value.cells]
   rw [c1 _ p5, c1 _ hna] at p1
   simpa using p1
 subst hv
 exact ⟨p.1, p2, p3⟩
end
end Go.Ab

namespace Go.Ab
open Go.RowKit
theorem list_map_of {α : Type} {R : α → Prop} {f : α → AV} : ∀ {xs : List AV}, (∀ y ∈ xs, ∃ d, R d ∧ y = f d) → ∃ ds : List α, (∀ d ∈ ds, R d) ∧ xs = ds.map f ∧ ds.length = xs.length
 | [], _ => ⟨[], fun d h => (by cases h), rfl, rfl⟩
 | x :: xs, h => by
  obtain ⟨d, h1, h2⟩ := h x (List.mem_cons_self ..)
  obtain ⟨ds, h3, h4, h5⟩ := list_map_of (xs := xs) fun y hy => h y (List.mem_cons_of_mem _ hy)
  refine ⟨d :: ds, fun e he => ?_, by simp [h2, ← h4], by simp [h5]⟩
  rcases List.mem_cons.1 he with rfl | he
  ·exact h1
  ·exact h3 e he
theorem ty_int {P : Program} {m : Nat} {t : TypeId} {k : IntKind} {x : AV} (ht : intTy P t = some k) (h : tyAV P (m + 1) t x) : ∃ n, (Lit.int k n).wf = true ∧ x = .lit (.int k n) := by
 unfold tyAV at h
 rw [intTy_sound ht] at h
 obtain ⟨n, h1, h2⟩ := h
 exact ⟨n, h2, h1⟩
theorem ty_str {P : Program} {m : Nat} {t : TypeId} {x : AV} (ht : strTy P t = true) (h : tyAV P (m + 1) t x) : ∃ l : List UInt8, l.length ≤ 9223372036854775807 ∧ x = .lit (.string ⟨l.toArray⟩) := by
 unfold tyAV at h
 rw [strTy_sound ht] at h
 obtain ⟨l, h1, h2⟩ := h
 exact ⟨l, h2, h1⟩
theorem ty_slice {P : Program} {m : Nat} {t e : TypeId} {x : AV} (ht : sliceTy P t = some e) (h : tyAV P (m + 1) t x) : ∃ xs, xs.length ≤ 9223372036854775807 ∧ (∀ y ∈ xs, tyAV P m e y) ∧ x = .slice none xs := by
 unfold tyAV at h
 rw [sliceTy_sound ht] at h
 obtain ⟨xs, h1, h2, h3, _⟩ := h
 exact ⟨xs, h2, h3, h1⟩
theorem ty_byte {P : Program} {m : Nat} {t : TypeId} {x : AV} (ht : byteTy P t = true) (h : tyAV P (m + 1) t x) : ∃ b : UInt8, True ∧ x = byteAV b := by
 have he : P.underlying t = some (.int .u8) := by
  unfold byteTy at ht
  split at ht
  ·assumption
  ·cases ht
 unfold tyAV at h
 rw [he] at h
 obtain ⟨n, rfl, hw⟩ := h
 obtain ⟨b, hb, _⟩ := byte_of_wf hw
 exact ⟨b, trivial, hb⟩
theorem ty_bytearr {P : Program} {m n size : Nat} {t e : TypeId} {x : AV} (ht : arrInfo P t = some (n, e, size)) (he : byteTy P e = true) (h : tyAV P (m + 2) t x) : ∃ bs : List UInt8, bs.length = n ∧ x = .agg (bs.map byteAV) := by
 unfold tyAV at h
 rw [arrTy_sound (arrInfo_sound ht).1] at h
 obtain ⟨xs, rfl, h1, h2⟩ := h
 obtain ⟨bs, _, h3, h4⟩ := list_map_of fun y hy => ty_byte he (h2 y hy)
 exact ⟨bs, by omega, by rw [h3]⟩
theorem ty_list {P : Program} {α : Type} {R : α → Prop} {f : α → AV} {m : Nat} {t e : TypeId} {x : AV} (ht : sliceTy P t = some e) (he : ∀ y, tyAV P m e y → ∃ d, R d ∧ y = f d) (h : tyAV P (m + 1) t x) : ∃ l : List α, (l.length ≤ 9223372036854775807 ∧ ∀ d ∈ l, R d) ∧ x = .slice none (l.map f) := by
 obtain ⟨xs, h1, h2, rfl⟩ := ty_slice ht h
 obtain ⟨l, h3, h4, h5⟩ := list_map_of fun y hy => he y (h2 y hy)
 exact ⟨l, ⟨by omega, h3⟩, by rw [h4]⟩
theorem ty_struct {P : Program} {m : Nat} {t : TypeId} {fs : Array Field} {x : AV} (ht : P.underlying t = some (.struct fs)) (h : tyAV P (m + 1) t x) : ∃ xs, x = .agg xs ∧ xs.length = fs.size ∧ ∀ (i : Nat) (f : Field) (y : AV), fs[i]? = some f → xs[i]? = some y → tyAV P m f.type y := by
 unfold tyAV at h
 rw [ht] at h
 exact h

theorem ty_tag {P : Program} {m size : Nat} {t e : TypeId} {x : AV} (ht : arrInfo P t = some (32, e, size)) (he : byteTy P e = true) (h : tyAV P (m + 2) t x) : ∃ a : Tg, True ∧ x = tagAV a := by
 obtain ⟨bs, h1, rfl⟩ := ty_bytearr ht he h
 exact ⟨⟨bs, h1⟩, trivial, rfl⟩
theorem i64_of_wf {a : Int} (h : (Lit.int .i64 a).wf = true) : -9223372036854775808 ≤ a ∧ a ≤ 9223372036854775807 := by
 have hw : IntKind.i64.min ≤ a ∧ a ≤ IntKind.i64.max := by simpa [Lit.wf] using h
 have e1 : IntKind.i64.min = -9223372036854775808 := by decide
 have e2 : IntKind.i64.max = 9223372036854775807 := by decide
 omega
end Go.Ab

namespace Go.Proofs.YtdmjpolnbmoehaaGreatDoor
open Go.Ab
@[go_sem] theorem sl65 : sliceTy Tryz.prog 65 = some 50 := by kernel_rfl
@[go_sem] theorem si65 : sliceInfo Tryz.prog 65 = some (50, 2, 16, (.agg [(.lit (.int .i64 0)), (.lit (.int .i64 0))])) := by kernel_rfl
@[go_sem] theorem zt65 : ztree Tryz.prog 65 = some .nils := by kernel_rfl
@[go_sem] theorem tq65 : tyInfo Tryz.prog 65 = some (false, 1) ∧ byteTy Tryz.prog 65 = false ∧ Program.concrete Tryz.prog 65 = true ∧ strTy Tryz.prog 65 = false ∧ nilKind Tryz.prog 65 = 1 := by and_intros <;> kernel_rfl
end Go.Proofs.YtdmjpolnbmoehaaGreatDoor

namespace Go.Proofs.YtdmjpolnbmoehaaGreatDoor
open Go.Ab
attribute [local irreducible] Go.Ab.tyAV Go.Ab.aw Go.Ab.aops Go.Ab.kReg Go.Ab.aThen Go.Ab.aBlk Go.Ab.acond Go.Ab.aguard Go.Ab.astep Go.Ab.AStepX Go.Ab.aRet
theorem Append_bad (bs : List UInt8) (n : Int) (h : n < 0 ∨ 281474976710656 < n) (k : Nat) : ACall Tryz.prog 158 [.slice none (bs.map byteAV), .lit (.int .i64 n)] k [] (.tup [.nils, .lit (.int .i64 1)]) [] := by
 by_cases h1 : n < 0
 ·refine Bd Tryz.func158 Tryz.ntmps158 fun σ N hp hpn hk hkn hfree => ?_
  exact W0
 ·have h2 : 281474976710656 < n := by omega
  refine Bd Tryz.func158 Tryz.ntmps158 fun σ N hp hpn hk hkn hfree => ?_
  exact W0

theorem SamePredicates_refl (l : List Pr) (hl : l.length ≤ 100000) (k : Nat) :
  ACall Tryz.prog 87 [.slice none (l.map prAV), .slice none (l.map prAV)] k [] (.lit (.bool true)) [] := by
 refine Bd Tryz.func87 Tryz.ntmps87 fun σ N hp hpn hk hkn hfree => ?_
 refine Wk ?_
 refine go_loopF mixed (by kernel_rfl) [4, 5, 11, 12, 13, 14, 15, 16, 17, 18, 19, 20, 21, 22, 23, 24, 25] [] (fun m_ s_ σ_ n_ => ∃ (u : Nat), m_ = l.length - u ∧ s_ 5 = .lit (.int .i64 u) ∧ (u ≤ l.length)) ⟨_, 0, rfl, WF, WC⟩ ?_
 intro m_3 s_3 σ_3 n_3 hs_3 hf_3 hn_3 hI_3
 obtain ⟨u, hm_3, h3_5, hu⟩ := hI_3
 have h3_0 := KS hs_3 0
 have h3_1 := KS hs_3 1
 have hlow := KL (N := N) (σ := σ) hf_3
 by_cases hul : u = l.length
 ·subst hul
  exact W0
 ·have hui : u < l.length := by omega
  obtain ⟨c, hc⟩ : ∃ c, l[u] = c := ⟨_, rfl⟩
  refine Wk ?_
  exact ⟨WS, WG, WN, _, (show l.length - (u + 1) < m_3 by omega), u + 1, rfl, WF, WC⟩

theorem Bytes_spec (l : List Int) (i n : Nat) (h : Dk l i) (hn : n ≤ 100000) (d k : Nat) :
  ACall Tryz.prog 24 [.ptr d [] 0, .lit (.int .i64 n)] k [(d, deckBox l i)] (.slice none ((bytesD l i n).1.map byteAV)) [(d, deckBox l (bytesD l i n).2)] := by
 have c1 := Next_spec l i (n + 1) h (by omega) (by omega)
 have d1 := nextD_dk (n + 1) h
 have b1 := nextD_lt l i (n + 1) (by omega)
 have hn1 : ((n + 1 : Nat) : Int) = (n : Int) + 1 := by omega
 unfold bytesD
 rw [hn1] at c1
 generalize nextD l i (n + 1) = X at *
 obtain ⟨K, j⟩ := X
 simp only at c1 d1 b1 ⊢
 clear h hn1
 have hcs := And.intro (c1 d) True.intro
 generalize hR : bytesK l K j = R
 obtain ⟨R1, R2⟩ := R
 simp only
 refine Bd Tryz.func24 Tryz.ntmps24 fun σ N hp hpn hk hkn hfree => ?_
 obtain ⟨hd, hdn⟩ := HD0 hp hpn; clear hp hpn
 clear c1
 refine Wk ?_
 refine ALoop.nilrow 5 5 1 (by simp (disch := omega) [go_sem, *, -List.reduceReplicate]) ?_
 refine go_loopB (N) mixed (by kernel_rfl) [5, 6, 11, 12, 13, 14, 15, 16, 17, 18, 19, 20] [d] (fun m_ s_ σ_ n_ => ∃ (f : Nat) (j' : Nat) (r : Nat) (acc : List UInt8), m_ = f ∧ s_ 6 = .lit (.int .i64 f) ∧ s_ 5 = .slice (some r) (acc.map byteAV) ∧ σ_ (d) = deckBox l j' ∧ σ_ (r) = .row 5 1 acc.length ∧ (N ≤ r) ∧ (r < n_) ∧ (f + acc.length ≤ 100000) ∧ (Dk l j') ∧ ((acc ++ (bytesK l f j').1, (bytesK l f j').2) = (R1, R2))) ⟨_, K, j, _, [], rfl, WF, WF, WF, WF, WC, WC, WC, WC, WC⟩ ?_
 intro m_1 s_1 σ_1 n_1 hs_1 hf_1 hn_1 hI_1
 obtain ⟨f, j', r, acc, hm_1, h1_6, h1_5, e1_0, e1_1, hNr, hrn, hfl, hdj, hacc⟩ := hI_1
 have h1_0 := KS hs_1 0
 have h1_4 := KS hs_1 4
 have hlow := KD (N := N) (d := d) (σ := σ) hf_1
 have hne : ¬ r = d := by omega
 have hne2 : ¬ d = r := by omega
 cases f with
 | zero =>
  simp only [bytesK, List.append_nil, Prod.mk.injEq] at hacc
  obtain ⟨rfl, rfl⟩ := hacc
  refine Wk ?_
  exact RV (d) (deckBox l j')
 | succ f =>
  have c1 := Next_spec l j' 256 hdj (by omega) (by omega)
  have d1 := nextD_dk 256 hdj
  have b1 := nextD_lt l j' 256 (by omega)
  rw [bytesK] at hacc
  generalize nextD l j' 256 = X at *
  obtain ⟨x, j2⟩ := X
  simp only at c1 d1 b1 hacc
  have hw : IntKind.u8.wrap (x : Int) = x := by rw [IntKind.wrap_u8]; omega
  have hbx : AV.lit (.int .u8 (x : Int)) = byteAV (UInt8.ofNat x) := by simp [byteAV, Nat.mod_eq_of_lt b1]
  have hcs := And.intro (c1 d) True.intro
  clear c1 hdj
  refine Wk ?_
  exact ⟨WS, WG, WN, _, (show (f) < m_1 by omega), f, j2, r, acc ++ [UInt8.ofNat x], rfl, WF, WF, WF, WF, WC, WC, WC, WC, WC⟩

theorem Enc_bad (p : Pr) (hp0 : PrOk p) (h : predB p = false) (d k : Nat) :
  ACall Tryz.prog 96 [prAV p] k [(d, bitsG)] (.tup [.nils, .lit (.int .i64 5)]) [] := by
 have c1 := predValid_spec p hp0 d
 rw [h] at c1
 refine Bd Tryz.func96 Tryz.ntmps96 fun σ N hp hpn hk hkn hfree => ?_
 obtain ⟨hd, hdn⟩ := HD0 hp hpn; clear hp hpn
 have hcs := And.intro c1 True.intro
 clear c1
 exact W0
end Go.Proofs.YtdmjpolnbmoehaaGreatDoor

namespace Go.Proofs.YtdmjpolnbmoehaaGreatDoor
open Go.Ab
attribute [local irreducible] Go.Ab.tyAV Go.Ab.aw Go.Ab.aops Go.Ab.kReg Go.Ab.aThen Go.Ab.aBlk Go.Ab.acond Go.Ab.aguard Go.Ab.astep Go.Ab.AStepX Go.Ab.aRet
attribute [local irreducible] shaG
section
variable [W : W32]
end

section
variable [W : W32]
end
end Go.Proofs.YtdmjpolnbmoehaaGreatDoor
