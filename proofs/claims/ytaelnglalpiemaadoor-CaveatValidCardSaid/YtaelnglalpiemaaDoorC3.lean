/- What an argument of whatever data type reads as. -/
import Derived.Test.YtaelnglalpiemaaDoorC2
import Derived.ChangeArms
import Derived.OpenShut
namespace Go.Ab
open Go.RowKit Go.ChangeShapes

def layB (P : Program) : List Field → Nat → Nat → Bool
  | [], off, tot => off == tot
  | f :: fs, off, tot => f.offset == off && layB P fs (off + P.cellsOf f.type) tot

def dataTy (P : Program) : Nat → TypeId → Bool
  | 0, _ => false
  | m + 1, t => match P.underlying t with
    | some .bool => P.cellsOf t == 1
    | some (.int _) => P.cellsOf t == 1
    | some .string => P.cellsOf t == 1
    | some (.slice e) => dataTy P m e && decide (0 < P.cellsOf e) && P.cellsOf t == 1
    | some (.array n e) => dataTy P m e && P.cellsOf t == n * P.cellsOf e
    | some (.struct fs) => (fs.toList.all fun f => dataTy P m f.type) && layB P fs.toList 0 (P.cellsOf t)
    | _ => false

/-- A tree of a data type. -/
def tyAV (P : Program) : Nat → TypeId → AV → Prop
  | 0, _, _ => False
  | m + 1, t, x => match P.underlying t with
    | some .bool => ∃ b, x = .lit (.bool b)
    | some (.int k) => ∃ n, x = .lit (.int k n) ∧ (Lit.int k n).wf = true
    | some .string => ∃ l : List UInt8, x = .lit (.string ⟨l.toArray⟩) ∧ l.length ≤ 9223372036854775807
    | some (.slice e) => ∃ xs, x = .slice none xs ∧ xs.length ≤ 9223372036854775807 ∧ ∀ y ∈ xs, tyAV P m e y
    | some (.array n e) => ∃ xs, x = .agg xs ∧ xs.length = n ∧ ∀ y ∈ xs, tyAV P m e y
    | some (.struct fs) => ∃ xs, x = .agg xs ∧ xs.length = fs.size ∧ ∀ (i : Nat) (f : Field) (y : AV), fs[i]? = some f → xs[i]? = some y → tyAV P m f.type y
    | _ => False

def aggT (P : Program) (t : TypeId) : Bool :=
  match P.underlying t with
  | some (.array _ _) | some (.struct _) => true
  | _ => false

theorem range_mapM_cells {w : World} {a : Addr} {n : Nat} {cs : List Value} (h : (List.range n).mapM (fun i => w.cell? (a.add i)) = some cs) : cs.length = n ∧ ∀ (i : Nat) (v : Value), cs[i]? = some v → w.cell? (a.add i) = some v := by
  have hl := mapM_some_length h
  refine ⟨by simpa using hl, fun i v hv => ?_⟩
  have hi : i < n := by have := (List.getElem?_eq_some_iff.1 hv).1; simp at hl; omega
  have := mapM_some_get h i i (by simp [hi])
  rw [this]; exact hv

theorem flat_pieces {cs : List Value} {size : Nat} : ∀ (vs : List Value), cs.length = vs.length * size → (∀ (i : Nat) (v : Value), vs[i]? = some v → v.cells.toList = (cs.drop (i * size)).take size) → flat vs = cs
  | [], hl, _ => by
    simp at hl
    subst hl; rfl
  | v :: vs, hl, h => by
    have h0 := h 0 v rfl
    simp only [Nat.zero_mul, List.drop_zero] at h0
    rw [flat_cons, h0]
    simp only [List.length_cons, Nat.add_mul, Nat.one_mul] at hl
    have ih := flat_pieces (cs := cs.drop size) (size := size) vs (by rw [List.length_drop]; omega) fun i u hu => by
      have := h (i + 1) u (by simpa using hu)
      rw [this, List.drop_drop]
      congr 2
      rw [Nat.add_mul]; omega
    rw [ih, List.take_append_drop]

theorem flat_fields {P : Program} {cs : List Value} : ∀ (fs : List Field) (vs : List Value) (off : Nat), layB P fs off cs.length = true → vs.length = fs.length → off ≤ cs.length → (∀ (i : Nat) (f : Field) (v : Value), fs[i]? = some f → vs[i]? = some v → v.cells.toList = (cs.drop f.offset).take (P.cellsOf f.type) ∧ v.cells.size = P.cellsOf f.type) → flat vs = cs.drop off
  | [], vs, off, hl, hv, hle, _ => by
    cases vs with
    | nil =>
      simp only [layB, beq_iff_eq] at hl
      rw [hl, List.drop_length]; rfl
    | cons => simp at hv
  | f :: fs, vs, off, hl, hv, hle, h => by
    cases vs with
    | nil => simp at hv
    | cons v vs =>
      simp only [layB, Bool.and_eq_true, beq_iff_eq] at hl
      obtain ⟨h1, h2⟩ := h 0 f v rfl rfl
      have hsz : ((cs.drop off).take (P.cellsOf f.type)).length = P.cellsOf f.type := by rw [← hl.1, ← h1, Array.length_toList, h2]
      rw [List.length_take, List.length_drop] at hsz
      have ih := flat_fields (P := P) (cs := cs) fs vs (off + P.cellsOf f.type) hl.2 (by simpa using hv) (by omega) fun i g u hg hu => h (i + 1) g u (by simpa using hg) (by simpa using hu)
      rw [flat_cons, h1, hl.1, ih, ← List.drop_drop, List.take_append_drop]

theorem list_of {α : Type} {Q : Nat → α → Prop} : ∀ n, (∀ i, i < n → ∃ p, Q i p) → ∃ l : List α, l.length = n ∧ ∀ (i : Nat) (p : α), l[i]? = some p → Q i p
  | 0, _ => ⟨[], rfl, fun i p h => by simp at h⟩
  | n + 1, h => by
    obtain ⟨l, hl, hq⟩ := list_of n fun i hi => h i (by omega)
    obtain ⟨p, hp⟩ := h n (by omega)
    refine ⟨l ++ [p], by simp [hl], fun i q hq' => ?_⟩
    by_cases hi : i < l.length
    · rw [List.getElem?_append_left hi] at hq'; exact hq i q hq'
    · rw [List.getElem?_append_right (by omega)] at hq'
      have : i - l.length = 0 := by
        have := (List.getElem?_eq_some_iff.1 hq').1
        simp at this; omega
      rw [this] at hq'
      simp at hq'
      subst hq'
      have : i = n := by omega
      rw [this]; exact hp

section
variable {H : Type} {enc : TypeId × Value → H} {P : Program} {w : World} {base : Nat} {spare : Nat → Bool} {held : Bool}

theorem trod_rep : ∀ (m : Nat) (t : TypeId), dataTy P m t = true → ∀ (fuel : Nat) (cs : List Value) (x : DataW H × List MemPlace), DataW.trod enc P w base spare held fuel t cs = some x →
    ∃ (p : AV × Value), p.2.cells.toList = cs ∧ Rep (g0 w) p.1 p.2 ∧ tyAV P m t p.1 ∧ p.2.cells.size = P.cellsOf t ∧ valAgg p.2 = aggT P t ∧ valTup p.2 = false
  | 0, _, h => by simp [dataTy] at h
  | m + 1, t, h => by
    intro fuel cs x hx
    unfold dataTy at h
    unfold tyAV aggT
    split at h
    · rename_i ht
      obtain ⟨b, rfl, rfl⟩ := DataW.trod_bool ht hx
      simp only [ht]
      exact ⟨(.lit (.bool b), .bool b), rfl, .lit _ rfl, ⟨b, rfl⟩, by simpa [Value.cells] using (beq_iff_eq.1 h).symm, rfl, rfl⟩
    · rename_i k ht
      obtain ⟨n, rfl, rfl, hw⟩ := DataW.trod_int ht hx
      simp only [ht]
      exact ⟨(.lit (.int k n), .int k n), rfl, .lit _ rfl, ⟨n, rfl, hw⟩, by simpa [Value.cells] using (beq_iff_eq.1 h).symm, rfl, rfl⟩
    · rename_i ht
      obtain ⟨s, rfl, rfl, hw⟩ := DataW.trod_string ht hx
      simp only [ht]
      refine ⟨(.lit (.string s), .string s), rfl, .lit _ rfl, ⟨s.data.toList, by simp, ?_⟩, by simpa [Value.cells] using (beq_iff_eq.1 h).symm, rfl, rfl⟩
      unfold maxLen at hw
      have : s.data.toList.length = s.size := by simp
      omega
    · rename_i e ht
      simp only [Bool.and_eq_true, decide_eq_true_eq, beq_iff_eq] at h
      obtain ⟨⟨h1, h2⟩, h3⟩ := h
      simp only [ht]
      rcases DataW.trod_slice ht hx with ⟨rfl, rfl⟩ | ⟨a, len, cap, elems, rest, n, _, rfl, rfl, hba, hlc, hcm, hel, hcell, _⟩
      · exact ⟨(.slice none [], .slice none 0 0), rfl, AV.le_nils0 _ _ .nils, ⟨[], rfl, by simp, fun y hy => by cases hy⟩, by simp [Value.cells, h3], rfl, rfl⟩
      · obtain ⟨l, hl, hq⟩ := list_of (Q := fun i (p : AV × Value) => Rep (g0 w) p.1 p.2 ∧ tyAV P m e p.1 ∧ p.2.cells.size = P.cellsOf e ∧ ∀ (j : Nat) (v : Value), p.2.cells.toList[j]? = some v → w.cell? ((a.add (i * P.cellsOf e)).add j) = some v) len fun i hi => by
          have hc := hcell i hi
          have hei : elems[i]? = some elems[i] := List.getElem?_eq_getElem (by omega)
          rw [hei] at hc
          simp only [Option.bind_eq_some_iff] at hc
          obtain ⟨cs, hcs, hd⟩ := hc
          unfold World.cells? at hcs
          split at hcs
          · obtain ⟨hcl, hcc⟩ := range_mapM_cells hcs
            obtain ⟨p, p1, p2, p3, p4, p5, p6⟩ := trod_rep m e h1 n cs _ hd
            exact ⟨p, p2, p3, p4, by rw [p1]; exact hcc⟩
          · cases hcs
        have hlen : (l.map (·.1)).length = len := by simp [hl]
        have hsz : ∀ v ∈ l.map (·.2), v.cells.size = P.cellsOf e := fun v hv => by
          obtain ⟨p, hp, rfl⟩ := List.mem_map.1 hv
          obtain ⟨i, hi⟩ := List.getElem?_of_mem hp
          exact (hq i p hi).2.2.1
        have hrep := Rep.slice (g := g0 w) none (l.map (·.1)) (l.map (·.2)) (some a) cap (P.cellsOf e) (by simp) (by rw [hlen]; exact hlc) hcm
          (fun i x v hx hv => by
            rw [List.getElem?_map] at hx hv
            cases hli : l[i]? with
            | none => rw [hli] at hx; cases hx
            | some p => rw [hli] at hx hv; cases hx; cases hv; exact (hq i p hli).1) hsz
          (by
            rw [hlen]
            by_cases h0 : len = 0
            · exact .inl h0
            · right
              have hl0 : l[0]? = some l[0] := List.getElem?_eq_getElem (by omega)
              obtain ⟨_, _, q3, q4⟩ := hq 0 _ hl0
              have hc0 : 0 < (l[0]).2.cells.toList.length := by rw [Array.length_toList, q3]; exact h2
              have hcell0 := q4 0 _ (List.getElem?_eq_getElem hc0)
              have hspot : a.spot = none := by
                have := World.cell?_spot hcell0
                simpa [Addr.add] using this
              obtain ⟨b, off, sp⟩ := a
              simp only at hspot
              subst hspot
              have hb : b < w.heap.size := by
                rw [Addr.add_lit, Addr.add_lit] at hcell0
                rcases Nat.lt_or_ge b w.heap.size with h | h
                · exact h
                · exfalso
                  simp [World.cell?, Array.getElem?_eq_none h] at hcell0
              refine ⟨b, off, rfl, fun j u hu => ?_⟩
              simp only [g0, if_pos hb]
              -- which element the cell belongs to
              have hflen : (flat (l.map (·.2))).length = len * P.cellsOf e := by rw [flat_length _ _ hsz, List.length_map, hl]
              have hj : j < len * P.cellsOf e := by rw [← hflen]; exact (List.getElem?_eq_some_iff.1 hu).1
              have hi : j / P.cellsOf e < len := by rw [Nat.div_lt_iff_lt_mul h2]; exact hj
              have hli : l[j / P.cellsOf e]? = some l[j / P.cellsOf e] := List.getElem?_eq_getElem (by omega)
              obtain ⟨_, _, r3, r4⟩ := hq _ _ hli
              have hjm : j % P.cellsOf e < (l[j / P.cellsOf e]).2.cells.toList.length := by rw [Array.length_toList, r3]; exact Nat.mod_lt _ h2
              have hat := flat_at (l.map (·.2)) (P.cellsOf e) hsz (j / P.cellsOf e) (l[j / P.cellsOf e]).2 (by rw [List.getElem?_map, hli]; rfl) (j % P.cellsOf e) _ (List.getElem?_eq_getElem hjm)
              have hsplit : j / P.cellsOf e * P.cellsOf e + j % P.cellsOf e = j := by rw [Nat.mul_comm]; exact Nat.div_add_mod j (P.cellsOf e)
              rw [hsplit, hu] at hat
              have hcl := r4 (j % P.cellsOf e) u (by rw [List.getElem?_eq_getElem hjm]; exact hat.symm)
              rw [Addr.add_lit, Addr.add_lit] at hcl
              rw [← hcl]
              congr 2
              omega) (fun id hid => by cases hid)
        rw [hlen] at hrep
        refine ⟨(.slice none (l.map (·.1)), .slice (some a) len cap), rfl, hrep, ⟨_, rfl, by rw [hlen]; unfold maxLen at hcm; omega, fun y hy => ?_⟩, by simp [Value.cells, h3], rfl, rfl⟩
        obtain ⟨p, hp, rfl⟩ := List.mem_map.1 hy
        obtain ⟨i, hi⟩ := List.getElem?_of_mem hp
        exact (hq i p hi).2.1
    · rename_i n e ht
      simp only [Bool.and_eq_true, beq_iff_eq] at h
      obtain ⟨h1, h2⟩ := h
      obtain ⟨xs, q, _, rfl, hl, hxl, hf⟩ := DataW.trod_array ht hx
      simp only [ht]
      obtain ⟨l, hll, hq⟩ := list_of (Q := fun i (p : AV × Value) => Rep (g0 w) p.1 p.2 ∧ tyAV P m e p.1 ∧ p.2.cells.size = P.cellsOf e ∧ p.2.cells.toList = (cs.drop (i * P.cellsOf e)).take (P.cellsOf e)) n fun i hi => by
        have hd := hf i hi
        rw [List.getElem?_eq_getElem (by omega)] at hd
        obtain ⟨p, p1, p2, p3, p4, p5, p6⟩ := trod_rep m e h1 q _ _ hd
        exact ⟨p, p2, p3, p4, p1⟩
      have hfl : flat (l.map (·.2)) = cs := flat_pieces (size := P.cellsOf e) _ (by rw [hl, h2, List.length_map, hll]) fun i v hv => by
        rw [List.getElem?_map] at hv
        cases hli : l[i]? with
        | none => rw [hli] at hv; cases hv
        | some p => rw [hli] at hv; cases hv; exact (hq i p hli).2.2.2
      refine ⟨(.agg (l.map (·.1)), .agg (flat (l.map (·.2))).toArray), by rw [hfl]; rfl, .agg _ _ (by simp) (fun i x v hx hv => ?_), ⟨_, rfl, by simp [hll], fun y hy => ?_⟩, by simp [Value.cells, hfl, hl], rfl, rfl⟩
      · rw [List.getElem?_map] at hx hv
        cases hli : l[i]? with
        | none => rw [hli] at hx; cases hx
        | some p => rw [hli] at hx hv; cases hx; cases hv; exact (hq i p hli).1
      · obtain ⟨p, hp, rfl⟩ := List.mem_map.1 hy
        obtain ⟨i, hi⟩ := List.getElem?_of_mem hp
        exact (hq i p hi).2.1
    · rename_i fs ht
      simp only [Bool.and_eq_true, List.all_eq_true] at h
      obtain ⟨h1, h2⟩ := h
      obtain ⟨xs, q, _, rfl, hl, hxl, hf⟩ := DataW.trod_struct ht hx
      simp only [ht]
      obtain ⟨l, hll, hq⟩ := list_of (Q := fun i (p : AV × Value) => ∀ f, fs[i]? = some f → Rep (g0 w) p.1 p.2 ∧ tyAV P m f.type p.1 ∧ p.2.cells.size = P.cellsOf f.type ∧ p.2.cells.toList = (cs.drop f.offset).take (P.cellsOf f.type)) fs.size fun i hi => by
        have hfi : fs[i]? = some fs[i] := by simp [hi]
        have hd := hf i _ hfi
        rw [List.getElem?_eq_getElem (by omega)] at hd
        obtain ⟨p, p1, p2, p3, p4, p5, p6⟩ := trod_rep m (fs[i]).type (h1 _ (Array.getElem_mem_toList hi)) q _ _ hd
        exact ⟨p, fun f hf' => by rw [hfi] at hf'; cases hf'; exact ⟨p2, p3, p4, p1⟩⟩
      have hfl : flat (l.map (·.2)) = cs := by
        have := flat_fields (P := P) (cs := cs) fs.toList (l.map (·.2)) 0 (by rw [hl]; exact h2) (by simp [hll]) (Nat.zero_le _) fun i f v hf' hv => by
          rw [List.getElem?_map] at hv
          cases hli : l[i]? with
          | none => rw [hli] at hv; cases hv
          | some p =>
            rw [hli] at hv; cases hv
            obtain ⟨_, _, q3, q4⟩ := hq i p hli f (by simpa using hf')
            exact ⟨q4, q3⟩
        simpa using this
      have hat : ∀ (i : Nat) (p : AV × Value), l[i]? = some p → ∃ f, fs[i]? = some f := fun i p hp => by
        have : i < fs.size := by have := (List.getElem?_eq_some_iff.1 hp).1; omega
        exact ⟨fs[i], by simp [this]⟩
      refine ⟨(.agg (l.map (·.1)), .agg (flat (l.map (·.2))).toArray), by rw [hfl]; rfl, .agg _ _ (by simp) (fun i x v hx hv => ?_), ⟨_, rfl, by simp [hll], fun i f y hf' hy => ?_⟩, by simp [Value.cells, hfl, hl], rfl, rfl⟩
      · rw [List.getElem?_map] at hx hv
        cases hli : l[i]? with
        | none => rw [hli] at hx; cases hx
        | some p =>
          rw [hli] at hx hv; cases hx; cases hv
          obtain ⟨f, hf'⟩ := hat i p hli
          exact (hq i p hli f hf').1
      · rw [List.getElem?_map] at hy
        cases hli : l[i]? with
        | none => rw [hli] at hy; cases hy
        | some p => rw [hli] at hy; cases hy; exact (hq i p hli f hf').2.1
    · cases h

/-- An argument, opened. -/
theorem open_any {m : Nat} {t : TypeId} {v : Value} {d : DataW H} {ps : List MemPlace} {r : Reach} {b0 : Nat} (ht : dataTy P m t = true) (hval : Value.okWide P w r b0 t v) (hd : DataW.Trod enc P w base spare held t v d ps) : ∃ x, Rep (g0 w) x v ∧ tyAV P m t x := by
  obtain ⟨fuel, hf⟩ := hd
  obtain ⟨p, p1, p2, p3, p4, p5, p6⟩ := trod_rep m t ht fuel _ _ hf
  have hv : p.2 = v := by
    unfold Value.okWide at hval
    cases ha : aggT P t with
    | true =>
      have hag : ∃ cs, v = .agg cs := by
        unfold aggT at ha
        split at ha
        · rename_i h; rw [h] at hval; exact ⟨_, hval.choose_spec.1⟩
        · rename_i h; rw [h] at hval; exact ⟨_, hval.choose_spec.1⟩
        · cases ha
      obtain ⟨cs, rfl⟩ := hag
      rw [ha] at p5
      cases hp : p.2 <;> rw [hp] at p5 <;> simp [valAgg] at p5
      rename_i cs'
      rw [hp] at p1
      simp only [Value.cells] at p1
      congr 1
      exact Array.ext' p1
    | false =>
      rw [ha] at p5
      have hna : valAgg v = false := by
        cases v <;> try rfl
        rename_i cs
        exfalso
        obtain ⟨m', rfl⟩ : ∃ k, m = k + 1 := by cases m with
          | zero => simp [dataTy] at ht
          | succ k => exact ⟨k, rfl⟩
        unfold dataTy at ht
        unfold aggT at ha
        split at ht <;> first | (cases ht; done) | (rename_i h; rw [h] at ha hval; simp [Cell.okWide, Cell.ok] at ha hval; done)
      have c1 : ∀ u : Value, valAgg u = false → u.cells = #[u] := fun u hu => by cases u <;> simp_all [valAgg, Value.cells]
      rw [c1 _ p5, c1 _ hna] at p1
      simpa using p1
  subst hv
  exact ⟨p.1, p2, p3⟩
end
end Go.Ab
