/- Texts C1p, C2p, C3p, C4p, C5p, C11p, Fp, C14, C15, X1, V1p, X2, joined. -/
import Derived.Test.YtdmjpolnbmoehaaGreatDoorMS1
import Derived.RecoverIn
import Derived.RangeFuncLeaves

namespace Go.Ab
open Go.RowKit
theorem go_view {P : Program} {N : Nat} {b : Code} {Q : AExit → Cfg → Prop} {s : Slots} {σ : Nat → Ent} {n : Nat} (t : Tmp) {id : Nat} {bt : TypeId} {x : AV} (hσ : σ id = .box bt x) (ht : s t = .ptr id [] 0)
  (h : aw P N b Q ⟨upd s t (.view x), upd σ id (.fbox bt x), n⟩) : aw P N b Q ⟨s, σ, n⟩ := by
 refine go_ghost (fun W0 g a w hS => ?_) h
 have hr := hS.at_eq ht
 have key : ∀ v, Rep g (.ptr id [] 0) v → ∃ g', g.le g' ∧ Sim W0 g' (upd σ id (.fbox bt x)) n w ∧ Rep g' (.view x) v := by
  intro v hv
  cases hv with
  | ptr _ _ _ b0 hb =>
   obtain ⟨g', h1, h2, v', h3, h4⟩ := hS.sim.freeze hσ hb
   exact ⟨g', h1, h2, .view x v' b0 0 h3 fun j u hu => by rw [Nat.zero_add, h4, ← Array.getElem?_toList]; exact hu⟩
 obtain ⟨g', h1, h2, h3⟩ := key _ hr
 exact ⟨g', h1, hS.turnSlot h1 h2 h3⟩

theorem bytes_of_ints (zs : List Int) (h : ∀ n ∈ zs, (Lit.int .u8 n).wf = true) : ∃ bs : List UInt8, bs.length = zs.length ∧ zs.map (fun z => AV.lit (.int .u8 z)) = bs.map byteAV := by
 refine ⟨zs.map fun z => UInt8.ofNat z.toNat, by simp, ?_⟩
 rw [List.map_map]
 refine List.map_congr_left fun z hz => ?_
 have := h z hz
 simp only [Lit.wf, Function.comp, byteAV] at this ⊢
 congr 2
 rw [UInt8.toNat_ofNat']
 have hw : IntKind.u8.min ≤ z ∧ z ≤ IntKind.u8.max := by simpa using this
 have e1 : IntKind.u8.min = 0 := by decide
 have e2 : IntKind.u8.max = 255 := by decide
 omega
end Go.Ab

namespace Go.Ab
open Go.RowKit Go.ChangeShapes
def layB (P : Program) : List Field → Nat → Nat → Bool
 | [], off, tot => off == tot
 | f :: fs, off, tot => f.offset == off && layB P fs (off + P.cellsOf f.type) tot
def dataTy (P : Program) : Nat → TypeId → Bool
 | 0, _ => false
 | m + 1, t => match P.underlying t with
  | some .bool => P.cellsOf t == 1
  | some (.int _) => P.cellsOf t == 1
  | some .string => P.cellsOf t == 1
  | some (.slice e) => dataTy P m e && decide (0 < P.cellsOf e) && P.cellsOf t == 1
  | some (.array n e) => dataTy P m e && P.cellsOf t == n * P.cellsOf e
  | some (.struct fs) => (fs.toList.all fun f => dataTy P m f.type) && layB P fs.toList 0 (P.cellsOf t)
  | _ => false
def aggT (P : Program) (t : TypeId) : Bool :=
 match P.underlying t with
 | some (.array _ _) | some (.struct _) => true
 | _ => false
theorem range_mapM_cells {w : World} {a : Addr} {n : Nat} {cs : List Value} (h : (List.range n).mapM (fun i => w.cell? (a.add i)) = some cs) : cs.length = n ∧ ∀ (i : Nat) (v : Value), cs[i]? = some v → w.cell? (a.add i) = some v := by
 have hl := mapM_some_length h
 refine ⟨by simpa using hl, fun i v hv => ?_⟩
 have hi : i < n := by have := (List.getElem?_eq_some_iff.1 hv).1; simp at hl; omega
 have := mapM_some_get h i i (by simp [hi])
 rw [this]; exact hv
theorem flat_pieces {cs : List Value} {size : Nat} : ∀ (vs : List Value), cs.length = vs.length * size → (∀ (i : Nat) (v : Value), vs[i]? = some v → v.cells.toList = (cs.drop (i * size)).take size) → flat vs = cs
 | [], hl, _ => by
  simp at hl
  subst hl; rfl
 | v :: vs, hl, h => by
  have h0 := h 0 v rfl
  simp only [Nat.zero_mul, List.drop_zero] at h0
  rw [flat_cons, h0]
  simp only [List.length_cons, Nat.add_mul, Nat.one_mul] at hl
  have ih := flat_pieces (cs := cs.drop size) (size := size) vs (by rw [List.length_drop]; omega) fun i u hu => by
   have := h (i + 1) u (by simpa using hu)
   rw [this, List.drop_drop]
   congr 2
   rw [Nat.add_mul]; omega
  rw [ih, List.take_append_drop]
theorem flat_fields {P : Program} {cs : List Value} : ∀ (fs : List Field) (vs : List Value) (off : Nat), layB P fs off cs.length = true → vs.length = fs.length → off ≤ cs.length → (∀ (i : Nat) (f : Field) (v : Value), fs[i]? = some f → vs[i]? = some v → v.cells.toList = (cs.drop f.offset).take (P.cellsOf f.type) ∧ v.cells.size = P.cellsOf f.type) → flat vs = cs.drop off
 | [], vs, off, hl, hv, hle, _ => by
  cases vs with
  | nil =>
   simp only [layB, beq_iff_eq] at hl
   rw [hl, List.drop_length]; rfl
  | cons => simp at hv
 | f :: fs, vs, off, hl, hv, hle, h => by
  cases vs with
  | nil => simp at hv
  | cons v vs =>
   simp only [layB, Bool.and_eq_true, beq_iff_eq] at hl
   obtain ⟨h1, h2⟩ := h 0 f v rfl rfl
   have hsz : ((cs.drop off).take (P.cellsOf f.type)).length = P.cellsOf f.type := by rw [← hl.1, ← h1, Array.length_toList, h2]
   rw [List.length_take, List.length_drop] at hsz
   have ih := flat_fields (P := P) (cs := cs) fs vs (off + P.cellsOf f.type) hl.2 (by simpa using hv) (by omega) fun i g u hg hu => h (i + 1) g u (by simpa using hg) (by simpa using hu)
   rw [flat_cons, h1, hl.1, ih, ← List.drop_drop, List.take_append_drop]
theorem list_of {α : Type} {Q : Nat → α → Prop} : ∀ n, (∀ i, i < n → ∃ p, Q i p) → ∃ l : List α, l.length = n ∧ ∀ (i : Nat) (p : α), l[i]? = some p → Q i p
 | 0, _ => ⟨[], rfl, fun i p h => by simp at h⟩
 | n + 1, h => by
  obtain ⟨l, hl, hq⟩ := list_of n fun i hi => h i (by omega)
  obtain ⟨p, hp⟩ := h n (by omega)
  refine ⟨l ++ [p], by simp [hl], fun i q hq' => ?_⟩
  by_cases hi : i < l.length
  ·rw [List.getElem?_append_left hi] at hq'; exact hq i q hq'
  ·rw [List.getElem?_append_right (by omega)] at hq'
   have : i - l.length = 0 := by
    have := (List.getElem?_eq_some_iff.1 hq').1
    simp at this; omega
   rw [this] at hq'
   simp at hq'
   subst hq'
   have : i = n := by omega
   rw [this]; exact hp
theorem weightsAll_mem {H : Type} {P : Program} {e : TypeId} : ∀ {ds : List (DataW H)} {i : Nat} {d : DataW H}, ds[i]? = some d → ∀ n ∈ d.weights P e, n ∈ DataW.weightsAll P e ds
 | d0 :: r, 0, d, h, n, hn => by
  simp only [List.getElem?_cons_zero, Option.some.injEq] at h
  subst h
  simp only [DataW.weightsAll, List.mem_append]
  exact .inl hn
 | d0 :: r, i + 1, d, h, n, hn => by
  simp only [List.getElem?_cons_succ] at h
  simp only [DataW.weightsAll, List.mem_append]
  exact .inr (weightsAll_mem h n hn)
 | [], _, _, h, _, _ => by simp at h
section
variable {H : Type} {enc : TypeId × Value → H} {P : Program} {w : World} {base : Nat} {spare : Nat → Bool} {held : Bool}
theorem trod_rep : ∀ (m : Nat) (t : TypeId), dataTy P m t = true → ∀ (fuel : Nat) (cs : List Value) (x : DataW H × List MemPlace), DataW.trod enc P w base spare held fuel t cs = some x → (∀ n ∈ x.1.weights P t, n ≤ 140737488351232) →
  ∃ (p : AV × Value), p.2.cells.toList = cs ∧ Rep (g0 w) p.1 p.2 ∧ tyAV P m t p.1 ∧ p.2.cells.size = P.cellsOf t ∧ valAgg p.2 = aggT P t ∧ valTup p.2 = false
 | 0, _, h => by simp [dataTy] at h
 | m + 1, t, h => by
  intro fuel cs x hx hw0
  unfold dataTy at h
  unfold tyAV aggT
  split at h
  ·rename_i ht
   obtain ⟨b, rfl, rfl⟩ := DataW.trod_bool ht hx
   simp only [ht]
   exact ⟨(.lit (.bool b), .bool b), rfl, .lit _ rfl, ⟨b, rfl⟩, by simpa [Value.cells] using (beq_iff_eq.1 h).symm, rfl, rfl⟩
  ·rename_i k ht
   obtain ⟨n, rfl, rfl, hw⟩ := DataW.trod_int ht hx
   simp only [ht]
   exact ⟨(.lit (.int k n), .int k n), rfl, .lit _ rfl, ⟨n, rfl, hw⟩, by simpa [Value.cells] using (beq_iff_eq.1 h).symm, rfl, rfl⟩
  ·rename_i ht
   obtain ⟨s, rfl, rfl, hw⟩ := DataW.trod_string ht hx
   simp only [ht]
   refine ⟨(.lit (.string s), .string s), rfl, .lit _ rfl, ⟨s.data.toList, by simp, ?_⟩, by simpa [Value.cells] using (beq_iff_eq.1 h).symm, rfl, rfl⟩
   unfold maxLen at hw
   have : s.data.toList.length = s.size := by simp
   omega
  ·rename_i e ht
   simp only [Bool.and_eq_true, decide_eq_true_eq, beq_iff_eq] at h
   obtain ⟨⟨h1, h2⟩, h3⟩ := h
   simp only [ht]
   rcases DataW.trod_slice ht hx with ⟨rfl, rfl⟩ | ⟨a, len, cap, elems, rest, n, _, rfl, rfl, hba, hlc, hcm, hel, hcell, _⟩
   ·exact ⟨(.slice none [], .slice none 0 0), rfl, AV.le_nils0 _ _ .nils, ⟨[], rfl, by simp, (fun y hy => by cases hy), by simp⟩, by simp [Value.cells, h3], rfl, rfl⟩
   ·have hwu : (DataW.slice (elems.map (·.1)) (rest.map (·.1))).weights P t = ((elems.map (·.1)).length + (rest.map (·.1)).length) * P.bytesOf e :: (DataW.weightsAll P e (elems.map (·.1)) ++ DataW.weightsAll P e (rest.map (·.1))) := by simp only [DataW.weights, ht]
    simp only [hwu] at hw0
    have hwl : len * P.bytesOf e ≤ 140737488351232 := Nat.le_trans (Nat.mul_le_mul_right _ (by rw [List.length_map, hel]; omega)) (hw0 _ (List.mem_cons_self ..))
    have hwe : ∀ (i : Nat) (z : DataW H × List MemPlace), elems[i]? = some z → ∀ n ∈ z.1.weights P e, n ≤ 140737488351232 := fun i z hz n hn =>
     hw0 n (List.mem_cons_of_mem _ (List.mem_append_left _ (weightsAll_mem (i := i) (by rw [List.getElem?_map, hz]; rfl) n hn)))
    obtain ⟨l, hl, hq⟩ := list_of (Q := fun i (p : AV × Value) => Rep (g0 w) p.1 p.2 ∧ tyAV P m e p.1 ∧ p.2.cells.size = P.cellsOf e ∧ ∀ (j : Nat) (v : Value), p.2.cells.toList[j]? = some v → w.cell? ((a.add (i * P.cellsOf e)).add j) = some v) len fun i hi => by
     have hc := hcell i hi
     have hei : elems[i]? = some elems[i] := List.getElem?_eq_getElem (by omega)
     rw [hei] at hc
     simp only [Option.bind_eq_some_iff] at hc
     obtain ⟨cs, hcs, hd⟩ := hc
     unfold World.cells? at hcs
     split at hcs
     ·obtain ⟨hcl, hcc⟩ := range_mapM_cells hcs
      obtain ⟨p, p1, p2, p3, p4, p5, p6⟩ := trod_rep m e h1 n cs _ hd (hwe i _ hei)
      exact ⟨p, p2, p3, p4, by rw [p1]; exact hcc⟩
     ·cases hcs
    have hlen : (l.map (·.1)).length = len := by simp [hl]
    have hsz : ∀ v ∈ l.map (·.2), v.cells.size = P.cellsOf e := fun v hv => by
     obtain ⟨p, hp, rfl⟩ := List.mem_map.1 hv
     obtain ⟨i, hi⟩ := List.getElem?_of_mem hp
     exact (hq i p hi).2.2.1
    have hrep := Rep.slice (g := g0 w) none (l.map (·.1)) (l.map (·.2)) (some a) cap (P.cellsOf e) (by simp) (by rw [hlen]; exact hlc) hcm
     (fun i x v hx hv => by
      rw [List.getElem?_map] at hx hv
      cases hli : l[i]? with
      | none => rw [hli] at hx; cases hx
      | some p => rw [hli] at hx hv; cases hx; cases hv; exact (hq i p hli).1) hsz
     (by
      rw [hlen]
      by_cases h0 : len = 0
      ·exact .inl h0
      ·right
       have hl0 : l[0]? = some l[0] := List.getElem?_eq_getElem (by omega)
       obtain ⟨_, _, q3, q4⟩ := hq 0 _ hl0
       have hc0 : 0 < (l[0]).2.cells.toList.length := by rw [Array.length_toList, q3]; exact h2
       have hcell0 := q4 0 _ (List.getElem?_eq_getElem hc0)
       have hspot : a.spot = none := by
        have := World.cell?_spot hcell0
        simpa [Addr.add] using this
       obtain ⟨b, off, sp⟩ := a
       simp only at hspot
       subst hspot
       have hb : b < w.heap.size := by
        rw [Addr.add_lit, Addr.add_lit] at hcell0
        rcases Nat.lt_or_ge b w.heap.size with h | h
        ·exact h
        ·exfalso
         simp [World.cell?, Array.getElem?_eq_none h] at hcell0
       refine ⟨b, off, rfl, fun j u hu => ?_⟩
       simp only [g0, if_pos hb]
       have hflen : (flat (l.map (·.2))).length = len * P.cellsOf e := by rw [flat_length _ _ hsz, List.length_map, hl]
       have hj : j < len * P.cellsOf e := by rw [← hflen]; exact (List.getElem?_eq_some_iff.1 hu).1
       have hi : j / P.cellsOf e < len := by rw [Nat.div_lt_iff_lt_mul h2]; exact hj
       have hli : l[j / P.cellsOf e]? = some l[j / P.cellsOf e] := List.getElem?_eq_getElem (by omega)
       obtain ⟨_, _, r3, r4⟩ := hq _ _ hli
       have hjm : j % P.cellsOf e < (l[j / P.cellsOf e]).2.cells.toList.length := by rw [Array.length_toList, r3]; exact Nat.mod_lt _ h2
       have hat := flat_at (l.map (·.2)) (P.cellsOf e) hsz (j / P.cellsOf e) (l[j / P.cellsOf e]).2 (by rw [List.getElem?_map, hli]; rfl) (j % P.cellsOf e) _ (List.getElem?_eq_getElem hjm)
       have hsplit : j / P.cellsOf e * P.cellsOf e + j % P.cellsOf e = j := by rw [Nat.mul_comm]; exact Nat.div_add_mod j (P.cellsOf e)
       rw [hsplit, hu] at hat
       have hcl := r4 (j % P.cellsOf e) u (by rw [List.getElem?_eq_getElem hjm]; exact hat.symm)
       rw [Addr.add_lit, Addr.add_lit] at hcl
       rw [← hcl]
       congr 2
       omega) (fun id hid => by cases hid)
    rw [hlen] at hrep
    refine ⟨(.slice none (l.map (·.1)), .slice (some a) len cap), rfl, hrep, ⟨_, rfl, by rw [hlen]; unfold maxLen at hcm; omega, fun y hy => ?_, by rw [hlen]; exact hwl⟩, by simp [Value.cells, h3], rfl, rfl⟩
    obtain ⟨p, hp, rfl⟩ := List.mem_map.1 hy
    obtain ⟨i, hi⟩ := List.getElem?_of_mem hp
    exact (hq i p hi).2.1
  ·rename_i n e ht
   simp only [Bool.and_eq_true, beq_iff_eq] at h
   obtain ⟨h1, h2⟩ := h
   obtain ⟨xs, q, _, rfl, hl, hxl, hf⟩ := DataW.trod_array ht hx
   have hwu : (DataW.agg (xs.map (·.1))).weights P t = DataW.weightsAll P e (xs.map (·.1)) := by simp only [DataW.weights, ht]
   simp only [hwu] at hw0
   have hwe : ∀ (i : Nat) (z : DataW H × List MemPlace), xs[i]? = some z → ∀ n ∈ z.1.weights P e, n ≤ 140737488351232 := fun i z hz n hn =>
    hw0 n (weightsAll_mem (i := i) (by rw [List.getElem?_map, hz]; rfl) n hn)
   simp only [ht]
   obtain ⟨l, hll, hq⟩ := list_of (Q := fun i (p : AV × Value) => Rep (g0 w) p.1 p.2 ∧ tyAV P m e p.1 ∧ p.2.cells.size = P.cellsOf e ∧ p.2.cells.toList = (cs.drop (i * P.cellsOf e)).take (P.cellsOf e)) n fun i hi => by
    have hd := hf i hi
    have hxi : xs[i]? = some (xs[i]'(by omega)) := List.getElem?_eq_getElem (by omega)
    rw [hxi] at hd
    obtain ⟨p, p1, p2, p3, p4, p5, p6⟩ := trod_rep m e h1 q _ _ hd (hwe i _ hxi)
    exact ⟨p, p2, p3, p4, p1⟩
   have hfl : flat (l.map (·.2)) = cs := flat_pieces (size := P.cellsOf e) _ (by rw [hl, h2, List.length_map, hll]) fun i v hv => by
    rw [List.getElem?_map] at hv
    cases hli : l[i]? with
    | none => rw [hli] at hv; cases hv
    | some p => rw [hli] at hv; cases hv; exact (hq i p hli).2.2.2
   refine ⟨(.agg (l.map (·.1)), .agg (flat (l.map (·.2))).toArray), by rw [hfl]; rfl, .agg _ _ (by simp) (fun i x v hx hv => ?_), ⟨_, rfl, by simp [hll], fun y hy => ?_⟩, by simp [Value.cells, hfl, hl], rfl, rfl⟩
   ·rw [List.getElem?_map] at hx hv
    cases hli : l[i]? with
    | none => rw [hli] at hx; cases hx
    | some p => rw [hli] at hx hv; cases hx; cases hv; exact (hq i p hli).1
   ·obtain ⟨p, hp, rfl⟩ := List.mem_map.1 hy
    obtain ⟨i, hi⟩ := List.getElem?_of_mem hp
    exact (hq i p hi).2.1
  ·rename_i fs ht
   simp only [Bool.and_eq_true, List.all_eq_true] at h
   obtain ⟨h1, h2⟩ := h
   obtain ⟨xs, q, _, rfl, hl, hxl, hf⟩ := DataW.trod_struct ht hx
   have hwu : (DataW.agg (xs.map (·.1))).weights P t = DataW.weightsEach P (fs.toList.map (·.type)) (xs.map (·.1)) := by simp only [DataW.weights, ht]
   simp only [hwu] at hw0
   have hwe : ∀ (i : Nat) (f : Field) (z : DataW H × List MemPlace), fs[i]? = some f → xs[i]? = some z → ∀ n ∈ z.1.weights P f.type, n ≤ 140737488351232 := fun i f z hf hz n hn =>
    hw0 n (DataW.weights_mem_each (j := i) (t := f.type) (by rw [List.getElem?_map, Array.getElem?_toList, hf]; rfl) (by rw [List.getElem?_map, hz]; rfl) n hn)
   simp only [ht]
   obtain ⟨l, hll, hq⟩ := list_of (Q := fun i (p : AV × Value) => ∀ f, fs[i]? = some f → Rep (g0 w) p.1 p.2 ∧ tyAV P m f.type p.1 ∧ p.2.cells.size = P.cellsOf f.type ∧ p.2.cells.toList = (cs.drop f.offset).take (P.cellsOf f.type)) fs.size fun i hi => by
    have hfi : fs[i]? = some fs[i] := by simp [hi]
    have hd := hf i _ hfi
    have hxi : xs[i]? = some (xs[i]'(by omega)) := List.getElem?_eq_getElem (by omega)
    rw [hxi] at hd
    obtain ⟨p, p1, p2, p3, p4, p5, p6⟩ := trod_rep m (fs[i]).type (h1 _ (Array.getElem_mem_toList hi)) q _ _ hd (hwe i _ _ hfi hxi)
    exact ⟨p, fun f hf' => by rw [hfi] at hf'; cases hf'; exact ⟨p2, p3, p4, p1⟩⟩
   have hfl : flat (l.map (·.2)) = cs := by
    have := flat_fields (P := P) (cs := cs) fs.toList (l.map (·.2)) 0 (by rw [hl]; exact h2) (by simp [hll]) (Nat.zero_le _) fun i f v hf' hv => by
     rw [List.getElem?_map] at hv
     cases hli : l[i]? with
     | none => rw [hli] at hv; cases hv
     | some p =>
      rw [hli] at hv; cases hv
      obtain ⟨_, _, q3, q4⟩ := hq i p hli f (by simpa using hf')
      exact ⟨q4, q3⟩
    simpa using this
   have hat : ∀ (i : Nat) (p : AV × Value), l[i]? = some p → ∃ f, fs[i]? = some f := fun i p hp => by
    have : i < fs.size := by have := (List.getElem?_eq_some_iff.1 hp).1; omega
    exact ⟨fs[i], by simp [this]⟩
   refine ⟨(.agg (l.map (·.1)), .agg (flat (l.map (·.2))).toArray), by rw [hfl]; rfl, .agg _ _ (by simp) (fun i x v hx hv => ?_), ⟨_, rfl, by simp [hll], fun i f y hf' hy => ?_⟩, by simp [Value.cells, hfl, hl], rfl, rfl⟩
   ·rw [List.getElem?_map] at hx hv
    cases hli : l[i]? with
    | none => rw [hli] at hx; cases hx
    | some p =>
     rw [hli] at hx hv; cases hx; cases hv
     obtain ⟨f, hf'⟩ := hat i p hli
     exact (hq i p hli f hf').1
   ·rw [List.getElem?_map] at hy
    cases hli : l[i]? with
    | none => rw [hli] at hy; cases hy
    | some p => rw [hli] at hy; cases hy; exact (hq i p hli f hf').2.1
  ·cases h
theorem open_any {m : Nat} {t : TypeId} {v : Value} {d : DataW H} {ps : List MemPlace} {r : Reach} {b0 : Nat} (ht : dataTy P m t = true) (hval : Value.okWide P w r b0 t v) (hd : DataW.Trod enc P w base spare held t v d ps) (hw : ∀ n ∈ d.weights P t, n ≤ 140737488351232) : ∃ x, Rep (g0 w) x v ∧ tyAV P m t x := by
 obtain ⟨fuel, hf⟩ := hd
 obtain ⟨p, p1, p2, p3, p4, p5, p6⟩ := trod_rep m t ht fuel _ _ hf hw
 have hv : p.2 = v := by
  unfold Value.okWide at hval
  cases ha : aggT P t with
  | true =>
   have hag : ∃ cs, v = .agg cs := by
    unfold aggT at ha
    split at ha
    ·rename_i h; rw [h] at hval; exact ⟨_, hval.choose_spec.1⟩
    ·rename_i h; rw [h] at hval; exact ⟨_, hval.choose_spec.1⟩
    ·cases ha
   obtain ⟨cs, rfl⟩ := hag
   rw [ha] at p5
   cases hp : p.2 <;> rw [hp] at p5 <;> simp [valAgg] at p5
   rename_i cs'
   rw [hp] at p1
   simp only [Value.cells] at p1
   congr 1
   exact Array.ext' p1
  | false =>
   rw [ha] at p5
   have hna : valAgg v = false := by
    cases v <;> try rfl
    rename_i cs
    exfalso
    obtain ⟨m', rfl⟩ : ∃ k, m = k + 1 := by cases m with
     | zero => simp [dataTy] at ht
     | succ k => exact ⟨k, rfl⟩
    unfold dataTy at ht
    unfold aggT at ha
    split at ht <;> first | (cases ht; done) | (rename_i h; rw [h] at ha hval; simp [Cell.okWide, Cell.ok] at ha hval; done)
   have c1 : ∀ u : Value, valAgg u = false → u.cells = #[u] := fun u hu => by cases u <;> simp_all [valAgg, Value.cells]
   rw [c1 _ p5, c1 _ hna] at p1
   simpa using p1
 subst hv
 exact ⟨p.1, p2, p3⟩
end
end Go.Ab

namespace Go.Ab
open Go.RowKit
theorem ty_int {P : Program} {m : Nat} {t : TypeId} {k : IntKind} {x : AV} (ht : intTy P t = some k) (h : tyAV P (m + 1) t x) : ∃ n, (Lit.int k n).wf = true ∧ x = .lit (.int k n) := by
 unfold tyAV at h
 rw [intTy_sound ht] at h
 obtain ⟨n, h1, h2⟩ := h
 exact ⟨n, h2, h1⟩
theorem ty_str {P : Program} {m : Nat} {t : TypeId} {x : AV} (ht : strTy P t = true) (h : tyAV P (m + 1) t x) : ∃ l : List UInt8, l.length ≤ 9223372036854775807 ∧ x = .lit (.string ⟨l.toArray⟩) := by
 unfold tyAV at h
 rw [strTy_sound ht] at h
 obtain ⟨l, h1, h2⟩ := h
 exact ⟨l, h2, h1⟩
theorem ty_struct {P : Program} {m : Nat} {t : TypeId} {fs : Array Field} {x : AV} (ht : P.underlying t = some (.struct fs)) (h : tyAV P (m + 1) t x) : ∃ xs, x = .agg xs ∧ xs.length = fs.size ∧ ∀ (i : Nat) (f : Field) (y : AV), fs[i]? = some f → xs[i]? = some y → tyAV P m f.type y := by
 unfold tyAV at h
 rw [ht] at h
 exact h

theorem i64_of_wf {a : Int} (h : (Lit.int .i64 a).wf = true) : -9223372036854775808 ≤ a ∧ a ≤ 9223372036854775807 := by
 have hw : IntKind.i64.min ≤ a ∧ a ≤ IntKind.i64.max := by simpa [Lit.wf] using h
 have e1 : IntKind.i64.min = -9223372036854775808 := by decide
 have e2 : IntKind.i64.max = 9223372036854775807 := by decide
 omega

section
variable {W0 : World} {g : Ghost} {σ : Nat → Ent} {n : Nat} {w : World}
theorem Sim.newMark (h : Sim W0 g σ n w) {k : Nat} (hk : σ k = .none) (hn : k < n) :
  ∃ g', g.le g' ∧ Sim W0 g' (upd σ k .mark) n (w.alloc (.deferred (some []))) ∧ g'.loc k = some w.heap.size ∧ g'.row k ≠ none := by
 have h0 := h.alloc (.deferred (some []))
 obtain ⟨hl, hrw, ho, hm⟩ := h.free k hk
 let g' : Ghost := { g with loc := upd g.loc k (some w.heap.size), row := upd g.row k (some (.bool true)) }
 have hle : g.le g' := ⟨fun _ _ _ h => h, (Ghost.le_loc hl w.heap.size).loc, fun id u' hu' => by
  have hne : id ≠ k := by rintro rfl; rw [hrw] at hu'; cases hu'
  exact ⟨u', by show upd g.row k _ id = some u'; rw [upd_ne _ _ _ _ hne]; exact hu', .inl rfl⟩, fun _ u h => ⟨u, h, .inl rfl⟩⟩
 have hlk : g'.loc k = some w.heap.size := upd_same _ _ _
 have hrk : g'.row k = some (.bool true) := upd_same _ _ _
 have hbk : g'.blk k = some w.heap.size := Ghost.blk_loc hlk
 refine ⟨g', hle, h0.change hn hle h0.below h0.imm (fun id hid => ⟨upd_ne _ _ _ _ hid, upd_ne _ _ _ _ hid, rfl, rfl⟩) (fun id hid b hb => ⟨⟨rfl, fun _ => rfl⟩, ?_⟩)
  ⟨ho, hm, w.heap.size, .bool true, hlk, hrk, heap_alloc_new w _, h.G_new⟩ (fun b hb => ?_) (Nat.le_refl _), hlk, by rw [hrk]; simp⟩
 ·rw [hbk]; intro e; injection e with e; exact h.blk_new id (e ▸ hb)
 ·rw [hbk] at hb; injection hb with hb; subst hb; exact ⟨h.below.size, by simp⟩
theorem Sim.newLoop (h : Sim W0 g σ n w) {k N : Nat} {r : Loop} {s : Slots} {T : Array Value} (hk : σ k = .none) (hn : k < n) (hT : T.size = N) (hs : ∀ t, Rep g (s t) (T.getD t undef)) :
  ∃ g', g.le g' ∧ Sim W0 g' (upd σ k (.loop w.heap.size N r s)) n (w.alloc (.loop { r with tmps := T })) := by
 have h0 := h.alloc (.loop { r with tmps := T })
 obtain ⟨hl, hrw, ho, hm⟩ := h.free k hk
 let g' : Ghost := { g with loc := upd g.loc k (some w.heap.size), mr := upd g.mr k (some (0, .bool true)) }
 have hle : g.le g' := ⟨fun _ _ _ h => h, (Ghost.le_loc hl w.heap.size).loc, fun _ u h => ⟨u, h, .inl rfl⟩, fun id u' hu' => by
  have hne : id ≠ k := by rintro rfl; rw [hm] at hu'; cases hu'
  exact ⟨u', by show upd g.mr k _ id = some u'; rw [upd_ne _ _ _ _ hne]; exact hu', .inl rfl⟩⟩
 have hlk : g'.loc k = some w.heap.size := upd_same _ _ _
 have hmk : g'.mr k = some (0, .bool true) := upd_same _ _ _
 have hbk : g'.blk k = some w.heap.size := Ghost.blk_loc hlk
 refine ⟨g', hle, h0.change hn hle h0.below h0.imm (fun id hid => ⟨upd_ne _ _ _ _ hid, rfl, rfl, upd_ne _ _ _ _ hid⟩) (fun id hid b hb => ⟨⟨rfl, fun _ => rfl⟩, ?_⟩)
  ⟨ho, hrw, ⟨_, hmk⟩, hlk, ⟨T, hT, fun t => (hs t).mono hle, heap_alloc_new w _⟩, h.G_new⟩ (fun b hb => ?_) (Nat.le_refl _)⟩
 ·rw [hbk]; intro e; injection e with e; exact h.blk_new id (e ▸ hb)
 ·rw [hbk] at hb; injection hb with hb; subst hb; exact ⟨h.below.size, by simp⟩
end
theorem go_rangeFunc {P : Program} {N : Nat} {Q : AExit → Cfg → Prop} {x : Operand} {ps : Array Tmp} {A B : Code} {s : Slots} {σ : Nat → Ent} {n : Nat} {f : FuncId} {caps : List AV} {pre post : Foot} {res : AV} (jump : AExit)
  (hx : aeval s x = .fn f caps) (hp : ∀ p ∈ pre, σ p.1 = p.2) (hpn : ∀ p ∈ pre, p.1 < n) (hpost : ∀ q ∈ post, q.1 < n)
  (hcall : ∀ (l : Nat) (r : Loop), r.state = .ready → r.pending = none → r.params = ps → r.assign = A → r.body = B →
   ∃ st, st ≠ .busy ∧ ACall P f (.lit (.func (.yield l) #[] #[]) :: caps) (n + 2) ((n + 1, .loop l N r s) :: pre) res ((n + 1, .loop l N { r with state := st, pending := jumpOf jump } s) :: post))
  (h : ∀ (l : Nat) (r : Loop), Q jump ⟨s, wr (upd (upd σ n .mark) (n + 1) (.loop l N r s)) post, n + 3⟩) : aw P N (.rangeFunc x ps A B) Q ⟨s, σ, n⟩ := by
 intro hok hmix ro hro W0 g a w hS
 have hro' : ro = none := by
  rcases hro with hro | hro
  ·exact hro
  ·cases hro
 subst hro'
 simp only [codeOK, Bool.and_eq_true] at hok
 refine wpIn_rangeFunc fun fn _ => ?_
 have hsn : σ n = .none := hS.sim.bound n (Nat.le_refl _)
 have hsn1 : σ (n + 1) = .none := hS.sim.bound (n + 1) (Nat.le_succ _)
 have hsn2 : σ (n + 2) = .none := hS.sim.bound (n + 2) (by show n ≤ n + 2; omega)
 obtain ⟨g1, hle1, hS1, hloc1, hrow1⟩ := (hS.sim.more (n' := n + 3) (by show n ≤ n + 3; omega)).newMark hsn (by omega)
 obtain ⟨g2, hle2, hS2⟩ := hS1.newLoop (k := n + 1) (N := N) (r := { state := .ready, pending := none, fn := fn, tmps := a.tmps, params := ps, assign := A, body := B, defers := w.heap.size }) (s := s) (T := a.tmps) (by rw [upd_ne _ _ _ _ (by omega)]; exact hsn1) (by omega) hS.size (fun t => (hS.slots t).mono hle1)
 have hsz : (w.alloc (.deferred (some []))).heap.size = w.heap.size + 1 := by simp
 rw [hsz] at hS2
 generalize hL : ({ state := .ready, pending := none, fn := fn, tmps := a.tmps, params := ps, assign := A, body := B, defers := w.heap.size } : Loop) = r at hS2
 obtain ⟨st, hst, hc, hpre', hpost', hrun⟩ := hcall (w.heap.size + 1) r (by rw [← hL]) (by rw [← hL]) (by rw [← hL]) (by rw [← hL]) (by rw [← hL])
 have henter := run_enterLoop_outer (P := P) (w := w) fn a.tmps ps A B
 rw [hL] at henter
 have hre := hS.eval hok.1.1
 rw [show aeval (Cfg.mk s σ n).s x = .fn f caps from hx] at hre
 generalize hv : a.eval x = v at hre
 cases hre with
 | fn _ _ vs hvl hvr =>
  generalize hw1 : (w.alloc (.deferred (some []))).alloc (.loop r) = w1 at hS2 henter
  have hres : (resolve a.eval (rangeCall x (w.heap.size + 1)) 0).run P w1 = .ok { target := .fn (.func f) vs.toArray, args := #[.func (.yield (w.heap.size + 1)) #[] #[]] } w1 := by
   simp only [resolve, List.map_toArray, List.map_cons, List.map_nil, hv, Deferred.ofValue, Sem.run_pure]
   simp [Act.eval]
  have hinv : (invoke (.fn (.func f) vs.toArray) #[.func (.yield (w.heap.size + 1)) #[] #[]]).run P w1 = .ok (.enter f (.func (.yield (w.heap.size + 1)) #[] #[] :: vs).toArray) w1 := by
   simp only [invoke]
   rw [run_callFunc hc]
   simp
  refine ⟨_, _, _, _, _, f, _, _, henter, hres, fun _ _ => trivial, hinv, fun hd => (by cases hd), ?_⟩
  have hne : ∀ q ∈ post, q.1 ≠ n + 1 := fun q hq => by have := hpost q hq; omega
  have hcalls := hrun W0 g2 _ (n + 3) w1 (.func (.yield (w.heap.size + 1)) #[] #[] :: vs) hS2 (by simp [hvl]) (fun i y u hy hu => by
   cases i with
   | zero => simp at hy hu; subst hy; subst hu; exact .lit _ rfl
   | succ i => exact (hvr i y u (by simpa using hy) (by simpa using hu)).mono (hle1.trans hle2))
   (by rw [upd_ne _ _ _ _ (by omega), upd_ne _ _ _ _ (by omega)]; exact hsn2) (by omega) (fun p hpm => by
    rcases List.mem_cons.1 hpm with rfl | hpm
    ·exact upd_same _ _ _
    ·have := hpn p hpm
     rw [upd_ne _ _ _ _ (by omega), upd_ne _ _ _ _ (by omega)]; exact hp p hpm)
  refine CallsIn.mono ((callsIn_wide (n := 0 - 1)).2 hcalls) fun e w3 hq => ?_
  obtain ⟨u, rfl, g3, hle3, hS3, _⟩ := hq
  have hj3 : wr (upd (upd σ n .mark) (n + 1) (.loop (w.heap.size + 1) N r s)) ((n + 1, .loop (w.heap.size + 1) N { r with state := st, pending := jumpOf jump } s) :: post) (n + 1) = .loop (w.heap.size + 1) N { r with state := st, pending := jumpOf jump } s := by
   rw [wr_cons, wr_other _ _ _ hne, upd_same]
  obtain ⟨T3, hT3, hTs3, hheap3, hset3⟩ := hS3.setLoop hj3
  have hend := run_endLoop (P := P) hheap3 hst
  have hS4 := hset3 { r with state := .exhausted, pending := jumpOf jump }
  have hσ : upd (wr (upd (upd σ n .mark) (n + 1) (.loop (w.heap.size + 1) N r s)) ((n + 1, .loop (w.heap.size + 1) N { r with state := st, pending := jumpOf jump } s) :: post)) (n + 1) (.loop (w.heap.size + 1) N { r with state := .exhausted, pending := jumpOf jump } s) =
    wr (upd (upd σ n .mark) (n + 1) (.loop (w.heap.size + 1) N { r with state := .exhausted, pending := jumpOf jump } s)) post := by
   rw [wr_cons, wr_upd_comm _ _ _ _ hne, wr_upd_comm _ _ _ _ hne, wr_upd_comm _ _ _ _ hne, upd_upd, upd_upd]
  rw [hσ] at hS4
  have hfin : ∀ e : Exit, (match e with
    | .normal => jump = .normal
    | .exit id => jump = .exit id
    | .ret => jump = .ret
    | _ => False) → LQ W0 g N a.defers Q e { a with defers := [({ target := .collected w.heap.size, args := #[] } : Deferred)] ++ a.defers } (w3.putObj (w.heap.size + 1) (.loop { { r with state := .exhausted, pending := jumpOf jump } with tmps := T3 })) := by
   intro e he
   have hQ := h (w.heap.size + 1) { r with state := .exhausted, pending := jumpOf jump }
   have hle := (hle1.trans hle2).trans hle3
   refine ⟨⟨s, _, n + 3⟩, g3, hle, ⟨hS4, hS.size, fun t => (hS.slots t).mono hle⟩, ⟨[(n, w.heap.size)], rfl, by simp, fun p hpm => ?_⟩, ?_⟩
   ·simp at hpm; subst hpm
    obtain ⟨f1, f2, _, f3⟩ := hS.sim.free n hsn
    refine ⟨fun hh => ?_, (hle2.trans hle3).loc _ _ hloc1, (hle2.trans hle3).row_ne hrow1⟩
    rcases hh with hh | hh | hh
    ·exact hh f1
    ·exact hh f2
    ·exact hh f3
   ·cases e with
    | normal => simp only at he; subst he; exact hQ
    | exit id => simp only at he; subst he; exact hQ
    | ret => simp only at he; subst he; exact hQ
    | goto => exact he.elim
    | panic => exact he.elim
    | outgrown => exact he.elim
  refine ⟨_, _, hend, ?_⟩
  cases jump with
  | normal => exact hfin .normal rfl
  | exit id => exact wpIn_exit (hfin (.exit id) rfl)
  | ret => exact wpIn_ret (hfin .ret rfl)
theorem endRec_normal {r : Loop} (h1 : r.state = .ready) (h2 : r.pending = none) : endRec r .normal = r := by
 cases r; simp only at h1 h2; subst h1; subst h2; rfl
theorem ren_upd {s : Slots} {f : Nat → Option Nat} (t : Nat) (v : AV) (h : (fun t => (s t).ren f) = s) (hv : v.ren f = v) : (fun t' => (upd s t v t').ren f) = upd s t v := by
 funext t'
 by_cases ht : t' = t
 ·subst ht; simp only [upd_same]; exact hv
 ·simp only [upd_ne _ _ _ _ ht]; exact congrFun h t'
theorem ren_init {args : List AV} {f : Nat → Option Nat} (h : AV.renl f args = args) : (fun t => (initS args t).ren f) = initS args := by
 funext t
 show (args.getD t (.tup [])).ren f = args.getD t (.tup [])
 by_cases ht : t < args.length
 ·have e1 : args.getD t (.tup []) = args[t] := by simp [List.getD, List.getElem?_eq_getElem ht]
  rw [e1]
  have h2 : (AV.renl f args)[t]? = some (args[t].ren f) := by rw [AV.renl_map, List.getElem?_map, List.getElem?_eq_getElem ht]; rfl
  rw [h, List.getElem?_eq_getElem ht] at h2
  injection h2 with h2
  exact h2.symm
 ·have e1 : args.getD t (.tup []) = .tup [] := by simp [List.getD, List.getElem?_eq_none (Nat.not_lt.1 ht)]
  rw [e1]; rfl
end Go.Ab

namespace Go.Proofs.YtdmjpolnbmoehaaGreatDoor
open Go.Ab
@[go_sem] theorem zt209 : ztree Tryz.prog 209 = some (.lit .nilFunc) := by kernel_rfl
@[go_sem] theorem tq209 : tyInfo Tryz.prog 209 = some (false, 1) ∧ byteTy Tryz.prog 209 = false ∧ Program.concrete Tryz.prog 209 = true ∧ strTy Tryz.prog 209 = false ∧ nilKind Tryz.prog 209 = 3 := by and_intros <;> kernel_rfl
@[go_sem] theorem zt219 : ztree Tryz.prog 219 = some (.lit .nilFunc) := by kernel_rfl
@[go_sem] theorem tq219 : tyInfo Tryz.prog 219 = some (false, 1) ∧ byteTy Tryz.prog 219 = false ∧ Program.concrete Tryz.prog 219 = true ∧ strTy Tryz.prog 219 = false ∧ nilKind Tryz.prog 219 = 3 := by and_intros <;> kernel_rfl
@[go_sem] theorem zt240 : ztree Tryz.prog 240 = some (.lit .nilFunc) := by kernel_rfl
@[go_sem] theorem tq240 : tyInfo Tryz.prog 240 = some (false, 1) ∧ byteTy Tryz.prog 240 = false ∧ Program.concrete Tryz.prog 240 = true ∧ strTy Tryz.prog 240 = false ∧ nilKind Tryz.prog 240 = 3 := by and_intros <;> kernel_rfl
@[go_sem] theorem zt241 : ztree Tryz.prog 241 = some (.lit .nilFunc) := by kernel_rfl
@[go_sem] theorem tq241 : tyInfo Tryz.prog 241 = some (false, 1) ∧ byteTy Tryz.prog 241 = false ∧ Program.concrete Tryz.prog 241 = true ∧ strTy Tryz.prog 241 = false ∧ nilKind Tryz.prog 241 = 3 := by and_intros <;> kernel_rfl
@[go_sem] theorem eq248 : eqTop Tryz.prog 248 = some (.agg []) := by kernel_rfl
@[go_sem] theorem zt248 : ztree Tryz.prog 248 = some (.agg []) := by kernel_rfl
@[go_sem] theorem tq248 : tyInfo Tryz.prog 248 = some (true, 0) ∧ byteTy Tryz.prog 248 = false ∧ Program.concrete Tryz.prog 248 = true ∧ strTy Tryz.prog 248 = false ∧ splaces Tryz.prog 248 = some [] := by and_intros <;> kernel_rfl
@[go_sem] theorem zt257 : ztree Tryz.prog 257 = some (.lit .nilFunc) := by kernel_rfl
@[go_sem] theorem tq257 : tyInfo Tryz.prog 257 = some (false, 1) ∧ byteTy Tryz.prog 257 = false ∧ Program.concrete Tryz.prog 257 = true ∧ strTy Tryz.prog 257 = false ∧ nilKind Tryz.prog 257 = 3 := by and_intros <;> kernel_rfl
end Go.Proofs.YtdmjpolnbmoehaaGreatDoor

namespace Go.Ab
theorem go_if {P : Program} {N : Nat} {b : Code} {Q : AExit → Cfg → Prop} {next : Cfg → Prop} {s : Slots} {σ : Nat → Ent} {n : Nat} (L ents : List Nat) (I : (Nat → Ent) → Prop)
  (h1 : SKeep L s s → EKeep n ents σ σ → aw P N b (aThen (fun c => SKeep L s c.s ∧ EKeep n ents σ c.σ ∧ n ≤ c.n ∧ I c.σ) Q) ⟨s, σ, n⟩)
  (h2 : ∀ s' σ' n', SKeep L s s' → EKeep n ents σ σ' → n ≤ n' → I σ' → next ⟨s', σ', n'⟩) : aw P N b (aThen next Q) ⟨s, σ, n⟩ :=
 go_after0 _ (h1 (SKeep.refl L s) (EKeep.refl n ents σ)) fun c ⟨a, b, c1, c2⟩ => h2 c.s c.σ c.n a b c1 c2
end Go.Ab

namespace Go.Ab
open Go.RowKit
section
variable {W0 : World} {N : Nat} {P : Program} {ops : Array Oper} {m : Nat} {out : Nat → Step}
theorem lexA_prefix {Q : Cfg → Prop} {Q' : Exit → Act → World → Prop} {ro : Option Nat} {D : List Deferred} {tl : List Nat} (g0 : Ghost) (hN : shapeOK N ops = true) (e0 : Nat)
  (hQ : ∀ c g a w, g0.le g → SimA W0 g N c a w → a.defers = D → m + ops.size ≤ c.n → (∀ j, e0 ≤ j → j < ops.size → c.σ (m + j) = .none) → Q c → wpOpsIn (wideAt ro) 0 P ops Q' tl a w) :
  ∀ (l : List Oper) (k : Nat) (c : Cfg) (g : Ghost) (a : Act) (w : World), (∀ j, j < l.length → l[j]? = ops[k + j]?) → k + l.length = e0 → e0 ≤ ops.size → g0.le g → SimA W0 g N c a w → a.defers = D → m + ops.size ≤ c.n → (∀ j, k ≤ j → j < ops.size → c.σ (m + j) = .none) →
   lexA P ops m out Q l k c → wpOpsIn (wideAt ro) 0 P ops Q' (List.range' k l.length ++ tl) a w
 | [], k, c, g, a, w, _, he, _, hg, hS, hD, hn, hf, h => by
  simp only [List.length_nil, Nat.add_zero] at he
  subst he
  simpa using hQ c g a w hg hS hD hn hf h
 | o :: l, k, c, g, a, w, hl, hk, hke, hg, hS, hD, hn, hf, h => by
  have h0 : ops[k]? = some o := by simpa using (hl 0 (by simp)).symm
  simp only [List.length_cons] at hk ⊢
  rw [List.range'_succ, List.cons_append, wpOpsIn_cons]
  refine h.1.run h0 hN hS (hf k (Nat.le_refl _) (by omega)) (by omega) fun g' a' w' hle hS' hD' => ?_
  refine lexA_prefix g0 hN e0 hQ l (k + 1) _ g' a' w' (fun j hj => by have := hl (j + 1) (by simp; omega); simpa [Nat.add_assoc, Nat.add_comm 1 j] using this) (by omega) hke (hg.trans hle) hS' (hD'.trans hD) hn (fun j hj hjs => ?_) h.2
  have hnone := hf j (by omega) hjs
  show wr c.σ (out k).post (m + j) = .none
  rw [wr_other]
  ·exact hnone
  ·intro q hq he
   rcases h.1.post_ids q hq with h1 | h1
   ·omega
   ·rw [he] at h1; exact h1 hnone
end
end Go.Ab

namespace Go.Proofs.YtdmjpolnbmoehaaGreatDoor
open Go.Ab
attribute [local irreducible] Go.Ab.tyAV Go.Ab.aw Go.Ab.aops Go.Ab.kReg Go.Ab.aThen Go.Ab.aBlk Go.Ab.acond Go.Ab.aguard Go.Ab.astep Go.Ab.AStepX Go.Ab.aRet
attribute [local irreducible] shaG
theorem bNumber_row (m : Int) (k : Nat) :
  ACall Tryz.prog 186 [.lit (.int .i64 m)] k [] (.slice (some k) ((eightB m).map byteAV)) [(k, .row 5 1 8)] := by
 have e7 := sh8_wrap m 56
 have e6 := sh8_wrap m 48
 have e5 := sh8_wrap m 40
 have e4 := sh8_wrap m 32
 have e3 := sh8_wrap m 24
 have e2 := sh8_wrap m 16
 have e1 := sh8_wrap m 8
 have e0 := sh8_wrap m 0
 simp only [Int.reducePow, Int.pow_zero, Int.fdiv_one] at e7 e6 e5 e4 e3 e2 e1 e0
 unfold eightB
 generalize sh8 m 56 = b7 at *
 generalize sh8 m 48 = b6 at *
 generalize sh8 m 40 = b5 at *
 generalize sh8 m 32 = b4 at *
 generalize sh8 m 24 = b3 at *
 generalize sh8 m 16 = b2 at *
 generalize sh8 m 8 = b1 at *
 generalize sh8 m 0 = b0 at *
 refine Bd Tryz.func186 Tryz.ntmps186 fun σ N hp hpn hk hkn hfree => ?_
 refine Wk ?_
 refine ALoop.nilrow 3 5 1 (by simp (disch := omega) [go_sem, *, -List.reduceReplicate]) ?_
 refine go_loopB (N) mixed (by kernel_rfl) [3, 4, 5, 6, 7, 8, 9, 10, 11, 12, 13, 14, 15] [] (fun m_ s_ σ_ n_ => ∃ (u : Nat) (q : Nat) (acc : List UInt8), m_ = 8 - u ∧ s_ 4 = .lit (.int .i64 (56 - 8 * (u : Int))) ∧ s_ 3 = .slice (some q) (acc.map byteAV) ∧ σ_ (q) = .row 5 1 acc.length ∧ (u ≤ 8) ∧ (N ≤ q) ∧ (q < n_) ∧ (acc = [b7, b6, b5, b4, b3, b2, b1, b0].take u)) ⟨_, 0, _, [], rfl, WF, WF, WF, WC, WC, WC, WC⟩ ?_
 intro m_1 s_1 σ_1 n_1 hs_1 hf_1 hn_1 hI_1
 obtain ⟨u, q, acc, hm_1, h1_4, h1_3, e1_0, hu, hq, hqn, hacc⟩ := hI_1
 have h1_0 := KS hs_1 0
 have h1_2 := KS hs_1 2
 have hlow := KL (N := N) (σ := σ) hf_1
 have hb7 : byteAV b7 = .lit (.int .u8 b7.toNat) := rfl
 have hb6 : byteAV b6 = .lit (.int .u8 b6.toNat) := rfl
 have hb5 : byteAV b5 = .lit (.int .u8 b5.toNat) := rfl
 have hb4 : byteAV b4 = .lit (.int .u8 b4.toNat) := rfl
 have hb3 : byteAV b3 = .lit (.int .u8 b3.toNat) := rfl
 have hb2 : byteAV b2 = .lit (.int .u8 b2.toNat) := rfl
 have hb1 : byteAV b1 = .lit (.int .u8 b1.toNat) := rfl
 have hb0 : byteAV b0 = .lit (.int .u8 b0.toNat) := rfl
 have hcase : u = 0 ∨ u = 1 ∨ u = 2 ∨ u = 3 ∨ u = 4 ∨ u = 5 ∨ u = 6 ∨ u = 7 ∨ u = 8 := by omega
 rcases hcase with rfl | hcase
 ·simp only [List.take_zero] at hacc
  subst hacc
  refine Wk ?_
  exact ⟨WS, WG, WN, _, (show 8 - (1) < m_1 by omega), 1, q, [b7], rfl, WF, WF, WF, WC, WC, WC, WC⟩
 rcases hcase with rfl | hcase
 ·simp only [List.take_succ_cons, List.take_zero] at hacc
  subst hacc
  refine Wk ?_
  exact ⟨WS, WG, WN, _, (show 8 - (2) < m_1 by omega), 2, q, [b7, b6], rfl, WF, WF, WF, WC, WC, WC, WC⟩
 rcases hcase with rfl | hcase
 ·simp only [List.take_succ_cons, List.take_zero] at hacc
  subst hacc
  refine Wk ?_
  exact ⟨WS, WG, WN, _, (show 8 - (3) < m_1 by omega), 3, q, [b7, b6, b5], rfl, WF, WF, WF, WC, WC, WC, WC⟩
 rcases hcase with rfl | hcase
 ·simp only [List.take_succ_cons, List.take_zero] at hacc
  subst hacc
  refine Wk ?_
  exact ⟨WS, WG, WN, _, (show 8 - (4) < m_1 by omega), 4, q, [b7, b6, b5, b4], rfl, WF, WF, WF, WC, WC, WC, WC⟩
 rcases hcase with rfl | hcase
 ·simp only [List.take_succ_cons, List.take_zero] at hacc
  subst hacc
  refine Wk ?_
  exact ⟨WS, WG, WN, _, (show 8 - (5) < m_1 by omega), 5, q, [b7, b6, b5, b4, b3], rfl, WF, WF, WF, WC, WC, WC, WC⟩
 rcases hcase with rfl | hcase
 ·simp only [List.take_succ_cons, List.take_zero] at hacc
  subst hacc
  refine Wk ?_
  exact ⟨WS, WG, WN, _, (show 8 - (6) < m_1 by omega), 6, q, [b7, b6, b5, b4, b3, b2], rfl, WF, WF, WF, WC, WC, WC, WC⟩
 rcases hcase with rfl | hcase
 ·simp only [List.take_succ_cons, List.take_zero] at hacc
  subst hacc
  refine Wk ?_
  exact ⟨WS, WG, WN, _, (show 8 - (7) < m_1 by omega), 7, q, [b7, b6, b5, b4, b3, b2, b1], rfl, WF, WF, WF, WC, WC, WC, WC⟩
 rcases hcase with rfl | hcase
 ·simp only [List.take_succ_cons, List.take_zero] at hacc
  subst hacc
  refine Wk ?_
  exact ⟨WS, WG, WN, _, (show 8 - (8) < m_1 by omega), 8, q, [b7, b6, b5, b4, b3, b2, b1, b0], rfl, WF, WF, WF, WC, WC, WC, WC⟩
 subst hcase
 simp only [List.take_succ_cons, List.take_zero] at hacc
 subst hacc
 clear hb7 hb6 hb5 hb4 hb3 hb2 hb1 hb0
 refine Wk ?_
 refine go_result1 (r0 := q) (by simp (disch := omega) [go_sem, *, -List.reduceReplicate]; rfl) (by omega) (by simp (disch := omega) [go_sem]; try rfl) (fun id hid => by simp (disch := omega) only; try exact hlow id hid) (by simp (disch := omega) [go_sem, *, -List.reduceReplicate]; rfl) (by simp (disch := omega) [go_sem])
section
variable [W : W32]
theorem bCheck_spec (key : Tg) (b : List UInt8) (hb : b.length ≤ 90000) (g k : Nat) :
  ACall Tryz.prog 143 [tagAV key, .slice none (b.map byteAV)] k [(g, shaG)] (tagAV (hmacT key.1 ([98, 111, 120] ++ b))) [] := by
 have c1 := hmacOf_spec key.1 ([98, 111, 120] ++ b) (by rw [key.2]; decide) (by simp) (by simp; omega) g
 generalize hmacT key.1 ([98, 111, 120] ++ b) = T at *
 have h98 : byteAV 98 = .lit (.int .u8 98) := rfl
 have h111 : byteAV 111 = .lit (.int .u8 111) := rfl
 have h120 : byteAV 120 = .lit (.int .u8 120) := rfl
 have hs1 := tagAV_sz key
 have hs2 := tagAV_cell key
 obtain ⟨K, hK⟩ := key
 have hkA : tagAV ⟨K, hK⟩ = .agg (K.map byteAV) := rfl
 simp only [hkA] at hs1 hs2 c1 ⊢
 clear hkA
 have htk : (K.map byteAV).take 32 = K.map byteAV := List.take_of_length_le (by rw [List.length_map]; omega)
 refine Bd Tryz.func143 Tryz.ntmps143 fun σ N hp hpn hk hkn hfree => ?_
 have M : Mut (N + 2 + 1) := ⟨⟩
 obtain ⟨hd, hdn⟩ := HD0 hp hpn; clear hp hpn
 have hcs := And.intro c1 True.intro
 clear c1
 exact W0
omit W in
theorem bStream_spec (key : Tg) (nonce : List UInt8) (k : Nat) :
  ACall Tryz.prog 195 [tagAV key, .slice none (nonce.map byteAV)] k [] (.fn 219 [.view (.slice none (nonce.map byteAV)), .view (tagAV key)]) [] := by
 refine Bd Tryz.func195 Tryz.ntmps195 fun σ N hp hpn hk hkn hfree => ?_
 refine Wm ?_
 refine Wz ?_
 refine go_view 2 (id := N) (bt := 29) (x := tagAV key) (by simp (disch := omega) [go_sem, *, -List.reduceReplicate]) (by simp (disch := omega) [go_sem, *, -List.reduceReplicate]) ?_
 refine go_view 3 (id := N + 1) (bt := 26) (x := .slice none (nonce.map byteAV)) (by simp (disch := omega) [go_sem, *, -List.reduceReplicate]) (by simp (disch := omega) [go_sem, *, -List.reduceReplicate]) ?_
 exact W0
set_option maxHeartbeats 1000000 in
theorem bStream1_spec (key : Tg) (nn : Int) (R : Nat) (hR : R ≤ 1000000) (l Nt : Nat) (r r' : Loop) (s : Slots) (E : Ent) (Rw : Nat → Ent) (g x q j k : Nat) (h1 : g < q) (h2 : q < x) (h3 : x < j)
  (hE0 : E ≠ .none) (hR0 : Rw 0 ≠ .none) (hRr : ∀ u n0 kk, j < n0 → (Rw u).ren (rn n0 kk none) = Rw u) (hsr : ∀ n0 kk, j < n0 → (fun t => (s t).ren (rn n0 kk none)) = s)
  (hY : ∀ u, u < R → ∀ kk, AYield Tryz.prog l [.lit (.int .i64 ((u : Int) * 32)), tagAV (kst key.1 nn u)] kk [(j, .loop l Nt r s), (x, E), (q, Rw u)] (.lit (.bool true)) [(j, .loop l Nt r s), (q, Rw (u + 1))])
  (hZ : ∀ kk, AYield Tryz.prog l [.lit (.int .i64 ((R : Int) * 32)), tagAV (kst key.1 nn R)] kk [(j, .loop l Nt r s), (x, E), (q, Rw R)] (.lit (.bool false)) [(j, .loop l Nt r' s), (q, Rw R)]) :
  ACall Tryz.prog 219 [.lit (.func (.yield l) #[] #[]), .view (.slice none ((eightB nn).map byteAV)), .view (tagAV key)] k [(j, .loop l Nt r s), (x, E), (q, Rw 0), (g, shaG)] (.tup []) [(j, .loop l Nt r' s), (q, Rw R)] := by
 have h115 : byteAV 115 = .lit (.int .u8 115) := rfl
 have h116 : byteAV 116 = .lit (.int .u8 116) := rfl
 have h114 : byteAV 114 = .lit (.int .u8 114) := rfl
 have h101 : byteAV 101 = .lit (.int .u8 101) := rfl
 have h97 : byteAV 97 = .lit (.int .u8 97) := rfl
 have h109 : byteAV 109 = .lit (.int .u8 109) := rfl
 obtain ⟨E1, hE1⟩ : ∃ e, eightB nn = e := ⟨_, rfl⟩
 have hE1l : E1.length = 8 := by rw [← hE1]; rfl
 have hst : ∀ u : Nat, kst key.1 nn u = hmacT key.1 ([115, 116, 114, 101, 97, 109] ++ (E1 ++ eightB (u : Int))) := fun u => by rw [← hE1]; rfl
 rw [hE1]
 have hs1 := tagAV_sz key
 have hs2 := tagAV_cell key
 obtain ⟨K, hK⟩ := key
 have hkA : tagAV ⟨K, hK⟩ = .agg (K.map byteAV) := rfl
 simp only [hkA] at hs1 hs2 ⊢
 simp only at hY hZ hst
 clear hkA hE1
 have htk : (K.map byteAV).take 32 = K.map byteAV := List.take_of_length_le (by rw [List.length_map]; omega)
 refine Bd (hpre := by simp [hE0, hR0]) Tryz.func219 Tryz.ntmps219 fun σ N hp hpn hk hkn hfree => ?_
 simp only [List.mem_cons, List.not_mem_nil, or_false, forall_eq_or_imp, forall_eq] at hp hpn
 obtain ⟨hd1, hd2, hd3, hd4⟩ := hp
 obtain ⟨hn1, hn2, hn3, hn4⟩ := hpn
 refine Wk ?_
 refine go_loopB (N) mixed (by kernel_rfl) [4, 5, 6, 7, 8, 9, 10, 11, 12, 13, 14, 15, 16, 17, 18, 19, 20, 21, 22] [j, q] (fun m_ s_ σ_ n_ => ∃ (u : Nat), m_ = R + 1 - u ∧ s_ 4 = .lit (.int .i64 u) ∧ σ_ (j) = .loop l Nt r s ∧ σ_ (q) = Rw u ∧ (u ≤ R)) ⟨_, 0, rfl, WF, WF, WF, WC⟩ ?_
 intro m_3 s_3 σ_3 n_3 hs_3 hf_3 hn_3 hI_3
 obtain ⟨u, hm_3, h3_4, e3_0, e3_1, hu⟩ := hI_3
 have h3_0 := KS hs_3 0
 have h3_1 := KS hs_3 1
 have h3_2 := KS hs_3 2
 have k3_0 := KE hf_3 (x)
 have k3_1 := KE hf_3 (g)
 have hlow : ∀ id, id < N → id ≠ j → id ≠ q → σ_3 id = σ id := fun id hid hdd0 hdd1 => (hf_3.at id (by omega) (by simp [hdd0, hdd1]; try omega)).trans (by simp (disch := omega) only; try first | exact hlow id hid hdd0 hdd1 | exact hlow id hid)
 have c1 := bNumber_row (u : Int)
 have c2 := hmacOf_spec K ([115, 116, 114, 101, 97, 109] ++ (E1 ++ eightB (u : Int))) (by omega) (by simp) (by rw [List.length_append, List.length_append, hE1l, eightB_len]; decide) g
 rw [← hst u] at c2
 have hE2l := eightB_len (u : Int)
 generalize eightB (u : Int) = E2 at *
 clear hst
 have M : Mut n_3 := ⟨⟩
 by_cases huR : u = R
 ·subst huR
  have c3 := hZ
  generalize kst K nn u = T at *
  have hcs := And.intro c1 (And.intro c2 (And.intro c3 True.intro))
  clear c1 c2 c3 hY hZ
  refine Wk ?_
  refine go_resultW [(j, .loop l Nt r' s), (q, Rw u)] (by simp (disch := omega) [go_sem, *, -List.reduceReplicate]; rfl) rfl (fun id hid => ?_) (by simp) (by simp only [renF, List.map_cons, List.map_nil, hRr _ _ _ hn1]; rw [show Ent.ren (rn N k none) (.loop l Nt r' s) = .loop l Nt r' (fun t => (s t).ren (rn N k none)) from rfl, hsr _ _ hn1])
  simp only [wr_cons, wr_nil]
  by_cases i1 : id = j
  ·subst i1; simp (disch := omega) [go_sem, *]
  by_cases i2 : id = q
  ·subst i2; simp (disch := omega) [go_sem, *]
  simp (disch := omega) only [upd_ne]
  exact hlow id hid i1 i2
 ·have c3 := hY u (by omega)
  generalize kst K nn u = T at *
  have hcs := And.intro c1 (And.intro c2 (And.intro c3 True.intro))
  clear c1 c2 c3 hY hZ
  refine Wk ?_
  exact ⟨WS, WG, WN, _, (show R + 1 - (u + 1) < m_3 by omega), u + 1, rfl, WF, WF, WF, WC⟩
end
end Go.Proofs.YtdmjpolnbmoehaaGreatDoor

namespace Go.Proofs.YtdmjpolnbmoehaaGreatDoor
open Go.Ab
attribute [local irreducible] Go.Ab.tyAV Go.Ab.aw Go.Ab.aops Go.Ab.kReg Go.Ab.aThen Go.Ab.aBlk Go.Ab.acond Go.Ab.aguard Go.Ab.astep Go.Ab.AStepX Go.Ab.aRet
theorem CloneM_spec (b : List UInt8) (hl : b.length ≤ 140737488351232) (k : Nat) :
  ACall Tryz.prog 133 [.slice none (b.map byteAV)] k [] (.ms k 1 1 0 b.length) [(k, .mrow 1 5 1 (b.map byteAV))] := by
 cases b with
 | cons x r => exact CloneM_cons (x :: r) rfl hl k
 | nil =>
  refine ACall.empty fun A c => ?_
  cases A with
  | none => exact ACall.nilM (by decide) (Clone_nil c k)
  | some A => exact CloneM_empty A c k
end Go.Proofs.YtdmjpolnbmoehaaGreatDoor

namespace Go.Proofs.YtdmjpolnbmoehaaGreatDoor
open Go.Ab
attribute [local irreducible] Go.Ab.tyAV Go.Ab.aw Go.Ab.aops Go.Ab.kReg Go.Ab.aThen Go.Ab.aBlk Go.Ab.acond Go.Ab.aguard Go.Ab.astep Go.Ab.AStepX Go.Ab.aRet
attribute [local irreducible] shaG
section
variable [W : W32]
theorem cry_at {key : Tg} {nn : Int} {b P : List UInt8} (hP : P.length = b.length) (hAt : ∀ i (hi : i < b.length), P[i]'(by omega) = x8 b[i] ((kst key.1 nn (i / 32)).1[i % 32]'(by rw [(kst key.1 nn (i / 32)).2]; omega))) {u : Nat} :
  ∀ i (hi : i < b.length), u * 32 ≤ i → i < u * 32 + 32 → ∃ y, (kst key.1 nn u).1[i - u * 32]? = some y ∧ P[i]? = some (x8 b[i] y) := fun i hi h1 h2 => by
 have hq : i / 32 = u := by omega
 have hr : i % 32 = i - u * 32 := by omega
 have h := hAt i hi
 simp only [hq, hr] at h
 exact ⟨_, List.getElem?_eq_getElem (by rw [(kst key.1 nn u).2]; omega), by rw [List.getElem?_eq_getElem (by omega), h]⟩
end
section
variable [W : W32]
def cryE (N L : Nat) : Ent := .box 26 (.ms (N + 2 + 1) 1 1 0 L)
def cryR (P b : List UInt8) (u : Nat) : Ent := .mrow 1 5 1 ((mixN P b (min b.length (u * 32))).map byteAV)
omit W in
theorem cryR_ren (P b : List UInt8) (u : Nat) (f : Nat → Option Nat) : (cryR P b u).ren f = cryR P b u := by
 simp only [cryR, ent_ren_mrow, renl_bytes]
omit W in
theorem cryE_ne (N L : Nat) : cryE N L ≠ .none := by simp [cryE]
omit W in
theorem cryR_ne (P b : List UInt8) (u : Nat) : cryR P b u ≠ .none := by simp [cryR]
def cryS (N f : Nat) (key : Tg) (E1 b : List UInt8) : Slots := upd (upd (upd (upd (upd (upd (upd (upd (initS [tagAV key, .slice none (E1.map byteAV), .slice none (b.map byteAV)]) 3 (.ptr N [] 0)) 6 .nils) 11 (.slice none (b.map byteAV))) 12 (.ms (N + 2 + (0 + 1)) 1 1 0 b.length)) 7 (.ptr (N + 2 + 2) [] 0)) 13 (tagAV key)) 14 (.slice none (E1.map byteAV))) 15 (.fn f [.view (.slice none (E1.map byteAV)), .view (tagAV key)])
omit W in
theorem cryS_ren (N f : Nat) (key : Tg) (E1 b : List UInt8) (n0 kk : Nat) (h : N + 9 < n0) : (fun t => (cryS N f key E1 b t).ren (rn n0 kk none)) = cryS N f key E1 b := by
 unfold cryS
 have r0 : rn n0 kk none N = some N := rn_lt (by omega)
 have r1 : rn n0 kk none (N + 2 + (0 + 1)) = some (N + 2 + (0 + 1)) := rn_lt (by omega)
 have r2 : rn n0 kk none (N + 2 + 2) = some (N + 2 + 2) := rn_lt (by omega)
 refine ren_upd _ _ (ren_upd _ _ (ren_upd _ _ (ren_upd _ _ (ren_upd _ _ (ren_upd _ _ (ren_upd _ _ (ren_upd _ _ (ren_init ?_) ?_) ?_) ?_) ?_) ?_) ?_) ?_) ?_
 ·simp only [AV.renl, AV.ren, renl_bytes, Option.bind_none, tagAV_ren]
 ·simp only [AV.ren, r0]
 ·rfl
 ·simp only [AV.ren, renl_bytes, Option.bind_none]
 ·simp only [AV.ren, r1]
 ·simp only [AV.ren, r2]
 ·simp only [tagAV_ren]
 ·simp only [AV.ren, renl_bytes, Option.bind_none]
 ·simp only [AV.ren, AV.renl, renl_bytes, Option.bind_none, tagAV_ren]
set_option maxHeartbeats 4000000 in
theorem bCrypt_spec (key : Tg) (nn : Int) (b : List UInt8) (hb : b.length ≤ 100000) (g k : Nat) :
  ACall Tryz.prog 145 [tagAV key, .slice none ((eightB nn).map byteAV), .slice none (b.map byteAV)] k [(g, shaG)] (.slice none ((strmB key.1 nn b).map byteAV)) [] := by
 have c1 := CloneM_spec b (by omega)
 have c2 := bStream_spec key (eightB nn)
 have hP := strmB_len key.1 nn b
 have hat := strmB_at key.1 nn b
 generalize hPP : strmB key.1 nn b = P at *
 have hAt : ∀ i (hi : i < b.length), P[i]'(by omega) = x8 b[i] ((kst key.1 nn (i / 32)).1[i % 32]'(by rw [(kst key.1 nn (i / 32)).2]; omega)) := fun i hi => hat i hi _ _
 clear hat hPP
 have hm0 : cryR P b 0 = .mrow 1 5 1 (b.map byteAV) := by simp [cryR, mixN_0]
 have hmR : cryR P b ((b.length + 31) / 32) = .mrow 1 5 1 (P.map byteAV) := by
  unfold cryR
  rw [Nat.min_eq_left (by omega), mixN_all hP]
 obtain ⟨R, hRd⟩ : ∃ R, (b.length + 31) / 32 = R := ⟨_, rfl⟩
 rw [hRd] at hmR
 refine Bd Tryz.func145 Tryz.ntmps145 fun σ N hp hpn hk hkn hfree => ?_
 obtain ⟨hd, hdn⟩ := HD0 hp hpn; clear hp hpn
 have hcs := And.intro c1 (And.intro c2 True.intro)
 clear c1 c2
 refine Wk ?_
 clear hcs
 change aw _ _ _ _ ⟨cryS N 219 key (eightB nn) b, _, _⟩
 refine go_rangeFunc (.exit 0) (f := 219) (caps := [.view (.slice none ((eightB nn).map byteAV)), .view (tagAV key)]) (pre := [(N + 2 + 2, cryE N b.length), (N + 2 + 1, cryR P b 0), (g, shaG)])
  (post := [(N + 2 + 1, cryR P b R)]) (res := .tup []) (by unfold cryS; simp (disch := omega) [go_sem, *, -List.reduceReplicate]) (by rw [hm0]; unfold cryE; intro p hp; simp at hp; rcases hp with rfl | rfl | rfl <;> (simp (disch := omega) [go_sem, *, -List.reduceReplicate])) (by simp; omega) (by simp) ?_ ?_
 ·intro l r hst hpe hps hA hB
  refine ⟨.done, by simp, ?_⟩
  refine bStream1_spec key nn R (by omega) l 47 r { r with state := .done, pending := jumpOf (.exit 0) } (cryS N 219 key (eightB nn) b) (cryE N b.length) (fun u => cryR P b u) g (N + 2 + 2) (N + 2 + 1) (N + 9 + 1) (N + 9 + 2) (by omega) (by omega) (by omega) (cryE_ne _ _) (cryR_ne _ _ _) (fun u n0 kk h => cryR_ren _ _ _ _) (fun n0 kk h => cryS_ren _ _ _ _ _ _ _ (by omega)) ?_ ?_
  ·intro u hu kk
   have hu32 : u * 32 < b.length := by omega
   have hyl := AYield.of_body (P := Tryz.prog) (l := l) (N := 47) (r := r) (s := cryS N 219 key (eightB nn) b) (j := N + 9 + 1) (k := kk) (args := [.lit (.int .i64 ((u : Int) * 32)), tagAV (kst key.1 nn u)]) (pre := [(N + 2 + 2, cryE N b.length), (N + 2 + 1, cryR P b u)]) (ws := [(N + 2 + 1, cryR P b (u + 1))]) (post := [(N + 2 + 1, cryR P b (u + 1))])
    .normal mixed hst (ps := [16, 17]) (by rw [hps]) hA hB rfl (by simp) (by kernel_rfl) (by kernel_rfl) (by kernel_rfl) (by kernel_rfl) (by simp [cryE_ne, cryR_ne]) (by simp) (by simp) (by simp) ?_
   ·rw [endRec_normal hst hpe] at hyl
    exact hyl
   ·clear hA hB hm0 hmR hd hdn hk hkn hfree
    obtain ⟨N0, hN0⟩ : ∃ N0, N0 = N := ⟨N, rfl⟩
    subst hN0
    intro σ N hp hpn hj hjn hk hkn hfree
    simp only [List.mem_cons, List.not_mem_nil, or_false, forall_eq_or_imp, forall_eq] at hp hpn
    obtain ⟨e1, e2⟩ := hp
    obtain ⟨n1, n2⟩ := hpn
    refine ⟨by simp only [renF, List.map_cons, List.map_nil, cryR_ren], ?_⟩
    have hT := cry_at hP hAt (u := u)
    have hTl := (kst key.1 nn u).2
    generalize kst key.1 nn u = T at *
    obtain ⟨T, hT32⟩ := T
    simp only at hT hTl
    have hTA : tagAV ⟨T, hT32⟩ = .agg (T.map byteAV) := rfl
    have hs1 := tagAV_sz ⟨T, hT32⟩
    have hs2 := tagAV_cell ⟨T, hT32⟩
    rw [hTA] at hs1 hs2 ⊢
    clear hTA hAt
    have ha : (u : Int) * 32 = ((u * 32 : Nat) : Int) := by omega
    rw [ha]
    clear ha
    unfold cryE cryR at *
    rw [Nat.min_eq_right (Nat.le_of_lt hu32)] at e2
    obtain ⟨e, he⟩ : ∃ e, min b.length ((u + 1) * 32) = e := ⟨_, rfl⟩
    rw [he]
    have he1 : u * 32 ≤ e := by omega
    have he2 : e ≤ b.length := by omega
    have he3 : e ≤ u * 32 + 32 := by omega
    have he4 : e < b.length → e = u * 32 + 32 := by omega
    clear he
    generalize u * 32 = a at *
    have hage : ¬ ((b.length : Int) ≤ (a : Int)) := by omega
    unfold cryS sputs sputs sputs at *
    refine Wk ?_
    refine ⟨rfl, by simp (disch := omega) [go_sem, *, -List.reduceReplicate], ?_⟩
    refine Wk ?_
    obtain ⟨C0, hC0⟩ : ∃ c, mixN P b a = c := ⟨_, rfl⟩
    rw [hC0] at e2
    refine go_loopB (N + 3) mixed (by kernel_rfl) [10, 23, 24, 25, 26, 27, 28, 29, 30, 31, 32, 33, 34, 35, 36, 37, 38, 39, 40, 41, 42, 43, 44, 45] [N0 + 2 + 1] (fun m_ s_ σ_ n_ => ∃ (i : Nat) (cur : List UInt8), m_ = e - i ∧ s_ 10 = .lit (.int .i64 i) ∧ σ_ (N0 + 2 + 1) = .mrow 1 5 1 (cur.map byteAV) ∧ (a ≤ i) ∧ (i ≤ e) ∧ (mixN P b i = cur)) ⟨_, a, C0, rfl, WF, WF, WC, WC, WC⟩ ?_
    intro m_1 s_1 σ_1 n_1 hs_1 hf_1 hn_1 hI_1
    obtain ⟨i, cur, hm_1, h1_10, e1_0, hi1, hi2, hc⟩ := hI_1
    have h1_6 := KS hs_1 6
    have h1_7 := KS hs_1 7
    have h1_8 := KS hs_1 8
    have h1_9 := KS hs_1 9
    have k1_0 := KE hf_1 (N0 + 2 + 2)
    have k1_1 := KE hf_1 (N0 + 9 + 1)
    have k1_2 := KE hf_1 (N + 1 + 0)
    have hlow : ∀ id, id < N → id ≠ N0 + 2 + 1 → id ≠ N0 + 9 + 1 → σ_1 id = σ id := fun id hid hdd0 hdd1 => (hf_1.at id (by omega) (by simp [hdd0]; try omega)).trans (by simp (disch := omega) only [upd_ne]; try first | exact hlow id hid hdd0 hdd1 | exact hlow id hid)
    by_cases hie : i = e
    ·subst hie
     rw [hc]
     have hend : (i : Int) < (b.length : Int) → ¬ ((i : Int) < (a : Int) + 32) := fun h => by have := he4 (by omega); omega
     by_cases hib : i = b.length
     ·have hib1 : ¬ ((i : Int) < (b.length : Int)) := by omega
      clear hT hend
      refine Wk ?_
      refine ⟨rfl, fun id hid => ?_⟩
      simp only [wr_cons, wr_nil]
      by_cases i1 : id = N0 + 2 + 1
      ·subst i1; simp (disch := omega) [go_sem, *]
      by_cases i2 : id = N0 + 9 + 1
      ·subst i2; simp (disch := omega) [go_sem, *]
      simp (disch := omega) only [upd_ne]
      exact hlow id hid i1 i2
     ·have hib1 : ((i : Int) < (b.length : Int)) := by omega
      have hib2 := hend hib1
      clear hT hend
      refine Wk ?_
      refine ⟨rfl, fun id hid => ?_⟩
      simp only [wr_cons, wr_nil]
      by_cases i1 : id = N0 + 2 + 1
      ·subst i1; simp (disch := omega) [go_sem, *]
      by_cases i2 : id = N0 + 9 + 1
      ·subst i2; simp (disch := omega) [go_sem, *]
      simp (disch := omega) only [upd_ne]
      exact hlow id hid i1 i2
    ·have hil : i < b.length := by omega
     have hib1 : ((i : Int) < (b.length : Int)) := by omega
     have hib2 : ((i : Int) < (a : Int) + 32) := by omega
     obtain ⟨y, hy, hPy⟩ := hT i hil hi1 (by omega)
     have hcl := mixN_len hP i (by omega)
     have ha0 := mixN_at hP i hil
     have hset0 := mixN_set hP i (by omega)
     rw [hc] at hcl ha0 hset0
     have hPi : P[i]'(by omega) = x8 b[i] y := by
      rw [List.getElem?_eq_getElem (by omega)] at hPy
      exact Option.some.inj hPy
     rw [hPi] at hset0
     obtain ⟨z, hz⟩ : ∃ z, b[i] = z := ⟨_, rfl⟩
     rw [List.getElem?_eq_getElem hil, hz] at ha0
     rw [hz] at hset0
     have hset := set_bytes cur i (x8 z y)
     rw [hset0] at hset
     have hx := x8_eq z y
     generalize x8 z y = v at *
     have hyb : byteAV y = .lit (.int .u8 y.toNat) := rfl
     have hzb : byteAV z = .lit (.int .u8 z.toNat) := rfl
     have hvb : byteAV v = .lit (.int .u8 v.toNat) := rfl
     rw [hvb] at hset
     generalize hc' : mixN P b (i + 1) = cn at *
     have hic : i < cur.length := by omega
     have hci : cur[i] = z := by rw [List.getElem?_eq_getElem hic] at ha0; exact Option.some.inj ha0
     obtain ⟨dd, hdd⟩ : ∃ dd : Nat, i - a = dd := ⟨_, rfl⟩
     rw [hdd] at hy
     have hsub : (i : Int) - (a : Int) = (dd : Int) := by omega
     have hdd32 : dd < 32 := by omega
     have hyT : T[dd]'(by omega) = y := by rw [List.getElem?_eq_getElem (by omega)] at hy; exact Option.some.inj hy
     clear hy ha0
     clear hT hPi hPy hdd hset0 hz hc
     refine Wk ?_
     exact ⟨WS, WG, WN, _, (show e - (i + 1) < m_1 by omega), i + 1, cn, rfl, WF, WF, WC, WC, WC⟩
  ·intro kk
   have hR32 : b.length ≤ R * 32 := by omega
   have hyl := AYield.of_body (P := Tryz.prog) (l := l) (N := 47) (r := r) (s := cryS N 219 key (eightB nn) b) (j := N + 9 + 1) (k := kk) (args := [.lit (.int .i64 ((R : Int) * 32)), tagAV (kst key.1 nn R)]) (pre := [(N + 2 + 2, cryE N b.length), (N + 2 + 1, cryR P b R)]) (ws := [(N + 2 + 1, cryR P b R)]) (post := [(N + 2 + 1, cryR P b R)])
    (.exit 0) mixed hst (ps := [16, 17]) (by rw [hps]) hA hB rfl (by simp) (by kernel_rfl) (by kernel_rfl) (by kernel_rfl) (by kernel_rfl) (by simp [cryE_ne, cryR_ne]) (by simp) (by simp) (by simp) ?_
   ·exact hyl
   ·clear hA hB hm0 hmR hd hdn hk hkn hfree
    obtain ⟨N0, hN0⟩ : ∃ N0, N0 = N := ⟨N, rfl⟩
    subst hN0
    intro σ N hp hpn hj hjn hk hkn hfree
    simp only [List.mem_cons, List.not_mem_nil, or_false, forall_eq_or_imp, forall_eq] at hp hpn
    obtain ⟨e1, e2⟩ := hp
    obtain ⟨n1, n2⟩ := hpn
    refine ⟨by simp only [renF, List.map_cons, List.map_nil, cryR_ren], ?_⟩
    generalize kst key.1 nn R = T at *
    have ha : (R : Int) * 32 = ((R * 32 : Nat) : Int) := by omega
    rw [ha]
    clear ha
    unfold cryE cryR at *
    rw [Nat.min_eq_left hR32] at e2 ⊢
    generalize R * 32 = a at *
    have hage : (b.length : Int) ≤ (a : Int) := by omega
    unfold cryS sputs sputs sputs at *
    refine Wk ?_
    refine ⟨rfl, by simp (disch := omega) [go_sem, *, -List.reduceReplicate], ?_⟩
    refine Wk ?_
    refine ⟨rfl, fun id hid => ?_⟩
    simp only [wr_cons, wr_nil]
    by_cases i1 : id = N0 + 2 + 1
    ·subst i1; simp (disch := omega) [go_sem, *]
    by_cases i2 : id = N0 + 9 + 1
    ·subst i2; simp (disch := omega) [go_sem, *]
    simp (disch := omega) only [upd_ne]
 ·intro l r
  rw [hmR]
  unfold cryS
  apply go_blk_here
  apply go_then
  refine go_freezeIn (N + 2 + 2) [] (r := N + 2 + 1) (ver := 1) (size := 1) (e := 5) (bt := 26) (c := .ms (N + 2 + 1) 1 1 0 b.length) (xs := P.map byteAV) (k := b.length) (by simp (disch := omega) [go_sem, *, -List.reduceReplicate]) (by simp (disch := omega) [go_sem, *, -List.reduceReplicate]) rfl (by rw [List.length_map, hP]) ?_
  exact WM
end
end Go.Proofs.YtdmjpolnbmoehaaGreatDoor
