/- Struct, array and slice literals; make; slicing; append; len, min, max; bytes and strings. -/
import Derived.Test.YtaelnglalpiemaaDoorA6
namespace Go.Ab
open Go.RowKit

/-! ### 'fill' -/
theorem foldl_set_list (cs : List Value) : ∀ (k off : Nat) (l : List Value), off + k + cs.length ≤ l.length →
    (cs.zipIdx k).foldl (fun (a : Array Value) (p : Value × Nat) => a.setIfInBounds (off + p.2) p.1) l.toArray = (l.take (off + k) ++ cs ++ l.drop (off + k + cs.length)).toArray := by
  induction cs with
  | nil => intro k off l _; simp
  | cons c r ih =>
    intro k off l hl
    simp only [List.length_cons] at hl
    rw [List.zipIdx_cons, List.foldl_cons]
    have e1 : (l.toArray.setIfInBounds (off + k) c) = (l.set (off + k) c).toArray := by simp
    rw [e1, ih (k + 1) off _ (by simp; omega)]
    congr 1
    have := list_seg_step l (off + k) c r (by omega)
    simp only [List.length_cons]
    rw [show off + (k + 1) = off + k + 1 from by omega]
    exact this

theorem fill_one (cells : Array Value) (v : Value) (off : Nat) (h : off + v.cells.size ≤ cells.size) :
    (v.cells.zipIdx.foldl (fun cs (p : Value × Nat) => cs.setIfInBounds (off + p.2) p.1) cells).toList = cells.toList.take off ++ v.cells.toList ++ cells.toList.drop (off + v.cells.size) := by
  rw [← Array.foldl_toList, Array.toList_zipIdx]
  have := foldl_set_list v.cells.toList 0 off cells.toList (by simpa using h)
  rw [Array.toArray_toList] at this
  rw [this]
  simp

def fillA (place : Nat → Option (Nat × Nat)) : List AV → List (Nat × AV) → Option (List AV)
  | zs, [] => some zs
  | zs, (i, z) :: r => match zs[i]? with
    | some y => if y.sz == z.sz && place i == some (AV.szl (zs.take i), z.sz) then fillA place (zs.set i z) r else none
    | none => none

theorem flat_set (vs : List Value) (i : Nat) (v u : Value) (hv : vs[i]? = some v) (hs : v.cells.size = u.cells.size) (off : Nat) (ho : (flat (vs.take i)).length = off) :
    flat (vs.set i u) = (flat vs).take off ++ u.cells.toList ++ (flat vs).drop (off + u.cells.size) := by
  have hi : i < vs.length := (List.getElem?_eq_some_iff.1 hv).1
  have e0 : flat vs = flat (vs.take i) ++ (v.cells.toList ++ flat (vs.drop (i + 1))) := by
    conv => lhs; rw [← List.take_append_drop i vs]
    rw [flat_append, List.drop_eq_getElem_cons hi, flat_cons, (List.getElem?_eq_some_iff.1 hv).2]
  have e1 : flat (vs.set i u) = flat (vs.take i) ++ (u.cells.toList ++ flat (vs.drop (i + 1))) := by
    have hlt' : i < (vs.set i u).length := by simpa using hi
    have tk : (vs.set i u).take i = vs.take i := by
      apply List.ext_getElem?
      intro j
      rw [List.getElem?_take, List.getElem?_take]
      split
      · rw [List.getElem?_set_ne (by omega)]
      · rfl
    rw [← List.take_append_drop i (vs.set i u), flat_append, List.drop_eq_getElem_cons hlt', flat_cons]
    simp [tk, List.drop_set_of_lt]
  rw [e1, e0, ← ho, ← hs, List.take_left, List.drop_length_add_append, ← Array.length_toList, List.drop_left]
  simp

theorem fillA_sound {g : Ghost} {place : Nat → Option (Nat × Nat)} : ∀ (parts : List (Nat × AV)) (vals : List (Nat × Value)) (zs ys : List AV) (vs : List Value) (cells : Array Value),
    fillA place zs parts = some ys → parts.length = vals.length → (∀ (i : Nat) (p : Nat × AV) (q : Nat × Value), parts[i]? = some p → vals[i]? = some q → p.1 = q.1 ∧ Rep g p.2 q.2) →
    vs.length = zs.length → (∀ (i : Nat) (x : AV) (v : Value), zs[i]? = some x → vs[i]? = some v → Rep g x v) → cells.toList = flat vs →
    ∃ (us : List Value) (cells' : Array Value), us.length = ys.length ∧ (∀ (i : Nat) (x : AV) (v : Value), ys[i]? = some x → us[i]? = some v → Rep g x v) ∧ cells'.toList = flat us ∧ Instr.fill place cells vals = some cells'
  | [], vals, zs, ys, vs, cells, h, hl, _, hvl, hr, hc => by
    have : vals = [] := List.eq_nil_of_length_eq_zero (by simpa using hl.symm)
    subst this
    simp only [fillA, Option.some.injEq] at h
    subst h
    exact ⟨vs, cells, hvl, hr, hc, rfl⟩
  | (i, z) :: r, [], _, _, _, _, _, hl, _, _, _, _ => by simp at hl
  | (i, z) :: r, (i', u) :: q, zs, ys, vs, cells, h, hl, hp, hvl, hr, hc => by
    obtain ⟨rfl, hzu⟩ := hp 0 (i, z) (i', u) rfl rfl
    simp only at hzu
    simp only [fillA] at h
    cases hy : zs[i]? with
    | none => rw [hy] at h; cases h
    | some y =>
      rw [hy] at h
      simp only [Bool.and_eq_true, beq_iff_eq] at h
      split at h
      · rename_i hcnd
        have hlt : i < vs.length := by rw [hvl]; exact (List.getElem?_eq_some_iff.1 hy).1
        have hvi : vs[i]? = some vs[i] := List.getElem?_eq_getElem hlt
        have hyv := hr i y _ hy hvi
        have hsz : (vs[i]).cells.size = u.cells.size := by rw [hyv.size, hzu.size, hcnd.1]
        have hoff := (flat_take_drop zs vs hvl (fun j x w h1 h2 => (hr j x w h1 h2).size) i _ hvi)
        have hfit : AV.szl (zs.take i) + u.cells.size ≤ cells.size := by
          have hcl : cells.size = (flat vs).length := by rw [← hc]; simp
          rw [hcl, hoff.1, List.length_append, List.length_append, hoff.2, Array.length_toList, hsz]
          omega
        have h1 := fill_one cells u (AV.szl (zs.take i)) hfit
        have h2 := flat_set vs i _ u hvi hsz _ hoff.2
        rw [hc, ← h2] at h1
        obtain ⟨us, cells', k1, k2, k3, k4⟩ := fillA_sound r q (zs.set i z) ys (vs.set i u) _ h (by simpa using hl) (fun j a b ha hb => hp (j + 1) a b (by simpa using ha) (by simpa using hb)) (by simp [hvl])
          (fun j x w h1 h2 => by
            by_cases hj : j = i
            · subst hj
              rw [List.getElem?_set_self (by omega)] at h1
              rw [List.getElem?_set_self hlt] at h2
              cases h1; cases h2; exact hzu
            · rw [List.getElem?_set_ne (Ne.symm hj)] at h1 h2
              exact hr j x w h1 h2) h1
        refine ⟨us, cells', k1, k2, k3, ?_⟩
        simp only [Instr.fill, hcnd.2]
        rw [if_neg, k4]
        rw [hzu.size]
        have : u.cells.size = z.sz := hzu.size
        simp
        omega
      · cases h

section
variable {P : Program} {o : Oper} {s : Slots} {id : Nat}

theorem parts_rep {g : Ghost} {a : Act} {parts : Array (Nat × Operand)} (hr : ∀ x ∈ (parts.toList.map (·.2)).toArray, Rep g (aeval s x) (a.eval x)) :
    ∀ (i : Nat) (p : Nat × AV) (q : Nat × Value), (parts.toList.map fun p => (p.1, aeval s p.2))[i]? = some p → ((parts.map fun (p : Nat × Operand) => (p.1, a.eval p.2)).toList)[i]? = some q → p.1 = q.1 ∧ Rep g p.2 q.2 := by
  intro i p q h1 h2
  rw [Array.toList_map, List.getElem?_map] at h2
  rw [List.getElem?_map] at h1
  cases hp : parts.toList[i]? with
  | none => rw [hp] at h1; cases h1
  | some x =>
    rw [hp] at h1 h2
    cases h1; cases h2
    exact ⟨rfl, hr x.2 (by simpa using ⟨x.1, by have := List.mem_of_getElem? hp; simpa using this⟩)⟩

/-- The places of a struct's fields. -/
def splaces (P : Program) (t : TypeId) : Option (List (Nat × Nat)) :=
  match P.underlying t with
  | some (.struct fs) => fs.toList.mapM fun f => (P.info? f.type).map fun i => (f.offset, i.size)
  | _ => none

theorem mapM_places (fs : List Field) (w : World) : ∀ pl, (fs.mapM fun f => (P.info? f.type).map fun i => (f.offset, i.size)) = some pl →
    (fs.mapM fun (f : Field) => (do pure (f.offset, ← sizeOf f.type) : Sem (Nat × Nat))).run P w = .ok pl w := by
  induction fs with
  | nil => intro pl h; simp at h; subst h; simp
  | cons f r ih =>
    intro pl h
    simp only [List.mapM_cons, Option.bind_eq_bind, Option.bind_eq_some_iff] at h
    obtain ⟨p, hp, q, hq, he⟩ := h
    simp only [Option.pure_def, Option.some.injEq] at he
    subst he
    cases hi : P.info? f.type with
    | none => rw [hi] at hp; cases hp
    | some i =>
      rw [hi] at hp
      cases hp
      have := ih q hq
      simp only [List.mapM_cons, Sem.run_bind, sizeOf, typeInfo, Sem.run_pure, run_program, Result.andThen_ok, hi] at this ⊢
      rw [this]
      rfl

theorem holds_build_struct {t : TypeId} {parts : Array (Nat × Operand)} {zs ys : List AV} {pl : List (Nat × Nat)} (ho : o.op = .build t parts) (hz : ztree P t = some (.agg zs)) (hp : splaces P t = some pl)
    (hf : fillA (fun (i : Nat) => pl[i]?) zs (parts.toList.map fun p => (p.1, aeval s p.2)) = some ys) : OpHolds P o s id [] (.agg ys) [] :=
  holds_pure fun g w a hr => by
    obtain ⟨i, zv, hi, hzv, hrep⟩ := ztree_sound hz g
    unfold splaces at hp
    split at hp
    · rename_i fs hfs
      cases hrep with
      | agg _ vs hvl hvr =>
        obtain ⟨us, cells', k1, k2, k3, k4⟩ := fillA_sound _ ((parts.map fun (p : Nat × Operand) => (p.1, a.eval p.2)).toList) zs ys vs (flat vs).toArray hf (by simp) (parts_rep (by simpa [ho, Op.operands] using hr)) hvl hvr rfl
        refine ⟨.agg cells', ?_, ?_⟩
        · have hm := mapM_places fs.toList w pl hp
          have hm' : (fs.mapM fun (f : Field) => (do pure (f.offset, ← sizeOf f.type) : Sem (Nat × Nat))).run P w = .ok pl.toArray w := by
            rw [Array.mapM_eq_mapM_toList]
            simp only [Sem.run_map, hm, Result.andThen_ok]
          have k4' : Instr.fill (fun (x : Nat) => pl.toArray[x]?) (flat vs).toArray (parts.map fun (p : Nat × Operand) => (p.1, a.eval p.2)).toList = some cells' := by
            have : (fun (x : Nat) => pl.toArray[x]?) = (fun (i : Nat) => pl[i]?) := by funext i; simp
            rw [this]; exact k4
          simp only [execOp, ho, Instr.build, Sem.run_bind, zeroValue, typeInfo, Sem.run_pure, run_program, Result.andThen_ok, hi, hzv, run_underlying hfs, hm', cells_agg]
          rw [k4']
          rfl
        · have : cells' = (flat us).toArray := by rw [← k3]
          rw [this]
          exact .agg ys us k1 k2
    · cases hp

theorem holds_build_array {t e : TypeId} {n size : Nat} {parts : Array (Nat × Operand)} {zs ys : List AV} (ho : o.op = .build t parts) (hz : ztree P t = some (.agg zs)) (ht : arrTy P t = some (n, e)) (hs : sizeIs P e size = true)
    (hf : fillA (fun i => some (i * size, size)) zs (parts.toList.map fun p => (p.1, aeval s p.2)) = some ys) : OpHolds P o s id [] (.agg ys) [] :=
  holds_pure fun g w a hr => by
    obtain ⟨i, zv, hi, hzv, hrep⟩ := ztree_sound hz g
    obtain ⟨ie, hie, hsz⟩ := sizeIs_sound hs
    cases hrep with
    | agg _ vs hvl hvr =>
      obtain ⟨us, cells', k1, k2, k3, k4⟩ := fillA_sound _ ((parts.map fun (p : Nat × Operand) => (p.1, a.eval p.2)).toList) zs ys vs (flat vs).toArray hf (by simp) (parts_rep (by simpa [ho, Op.operands] using hr)) hvl hvr rfl
      refine ⟨.agg cells', ?_, ?_⟩
      · simp only [execOp, ho, Instr.build, Sem.run_bind, zeroValue, sizeOf, typeInfo, Sem.run_pure, run_program, Result.andThen_ok, hi, hie, hzv, run_underlying (arrTy_sound ht), cells_agg, hsz]
        rw [k4]
        rfl
      · have : cells' = (flat us).toArray := by rw [← k3]
        rw [this]
        exact .agg ys us k1 k2

theorem flat_replicate (n : Nat) (z : Value) (size : Nat) (hz : z.cells.size = size) (hs : 0 < size) : ((Array.range (n * size)).map (z.cells[· % z.cells.size]!)).toList = flat (List.replicate n z) := by
  apply List.ext_getElem?
  intro j
  have hl : (flat (List.replicate n z)).length = n * size := by
    rw [flat_length _ size (fun v hv => by rw [List.eq_of_mem_replicate hv]; exact hz), List.length_replicate]
  by_cases hj : j < n * size
  · have hdiv : j / size < n := Nat.div_lt_of_lt_mul (by rw [Nat.mul_comm]; exact hj)
    have hmod : j % size < size := Nat.mod_lt _ hs
    have h1 := flat_at (List.replicate n z) size (fun v hv => by rw [List.eq_of_mem_replicate hv]; exact hz) (j / size) z (by simp [hdiv]) (j % size) (z.cells[j % size]) (by simp)
    have h2 : j / size * size + j % size = j := by rw [Nat.mul_comm]; exact Nat.div_add_mod j size
    rw [h2] at h1
    rw [h1]
    simp [hj, hz, hmod]
  · rw [List.getElem?_eq_none (by simp; omega), List.getElem?_eq_none (by omega)]

theorem rep_replicate {g : Ghost} {z : AV} {v : Value} (h : Rep g z v) (n : Nat) : ∀ (i : Nat) (x : AV) (u : Value), (List.replicate n z)[i]? = some x → (List.replicate n v)[i]? = some u → Rep g x u := by
  intro i x u h1 h2
  rw [List.getElem?_replicate] at h1 h2
  split at h1
  · rename_i hi; rw [if_pos hi] at h2; cases h1; cases h2; exact h
  · cases h1

theorem sizes_of {g : Ghost} {xs : List AV} {vs : List Value} {size : Nat} (hl : vs.length = xs.length) (hr : ∀ (i : Nat) (x : AV) (v : Value), xs[i]? = some x → vs[i]? = some v → Rep g x v) (hs : xs.all (fun x => x.sz == size) = true) :
    ∀ v ∈ vs, v.cells.size = size := by
  intro v hv
  obtain ⟨i, hi⟩ := List.getElem?_of_mem hv
  have hlt : i < xs.length := by rw [← hl]; exact (List.getElem?_eq_some_iff.1 hi).1
  rw [(hr i xs[i] v (List.getElem?_eq_getElem hlt) hi).size]
  have := List.all_eq_true.1 hs xs[i] (List.getElem_mem hlt)
  simpa using this

/-- A slice literal, every place written: a row of its own. -/
theorem holds_buildSlice {t e : TypeId} {len size : Nat} {parts : Array (Nat × Operand)} {ys : List AV} {z : AV} (ho : o.op = .buildSlice t len parts) (ht : sliceTy P t = some e) (hs : sizeIs P e size = true) (hz : ztree P e = some z) (hpos : 0 < size) (hzs : z.sz = size)
    (hlen : len * size ≤ 16777216) (hf : fillA (fun i => some (i * size, size)) (List.replicate len z) (parts.toList.map fun p => (p.1, aeval s p.2)) = some ys) (hys : ys.length = len) (hsz : ys.all (fun x => x.sz == size) = true) :
    OpHolds P o s id [] (.slice (some id) ys) [(id, .row e size len)] := by
  refine ⟨fun p hp => (by cases hp), fun q hq => .inl (by simp at hq; subst hq; rfl), fun W0 g σ n w a hS hr hf0 hn _ => ?_⟩
  obtain ⟨i, zv, hi, hzv, hrep⟩ := ztree_sound hz g
  obtain ⟨ie, hie, hsi⟩ := sizeIs_sound hs
  rw [hi] at hie; cases hie
  have hzc : zv.cells.size = size := by rw [hrep.size, hzs]
  have hcells : ((Array.range (len * size)).map ((if len * size = 0 then #[] else zv.cells)[· % (if len * size = 0 then #[] else zv.cells).size]!)).toList = flat (List.replicate len zv) := by
    by_cases h0 : len * size = 0
    · have : len = 0 := by
        rcases Nat.mul_eq_zero.1 h0 with h | h
        · exact h
        · omega
      subst this
      simp [flat]
    · rw [if_neg h0]; exact flat_replicate len zv size hzc hpos
  obtain ⟨us, cells', k1, k2, k3, k4⟩ := fillA_sound _ ((parts.map fun (p : Nat × Operand) => (p.1, a.eval p.2)).toList) (List.replicate len z) ys (List.replicate len zv) _ hf (by simp) (parts_rep (by simpa [ho, Op.operands] using hr)) (by simp) (rep_replicate hrep len) hcells
  have hus : ∀ v ∈ us, v.cells.size = size := sizes_of k1 k2 hsz
  have hfl : (flat us).length = len * size := by rw [flat_length us size hus, k1, hys]
  have hm : len ≤ maxLen := by
    have : len ≤ len * size := Nat.le_mul_of_pos_right _ hpos
    unfold maxLen; omega
  obtain ⟨g', hle, hS', hrow, hG⟩ := hS.newRow (e := e) (size := size) (m := len) (cells := flat us) hf0 hn cells' len hfl (Nat.le_refl _) hm (by rw [← Array.length_toList, k3, hfl]) (by rw [k3, List.take_of_length_le (by omega)])
  unfold runsTo
  have hexec : (execOp a.eval o).run P w = .ok (.value (.slice (some ⟨w.heap.size, 0, none⟩) len len)) (w.alloc (.cells cells' e)) := by
    have hbig : ¬ len * size > 2 ^ 24 := by omega
    simp only [execOp, ho, Instr.buildSlice, Sem.run_bind, run_underlying (sliceTy_sound ht), Result.andThen_ok, sizeOf, typeInfo, run_program, hi, Sem.run_pure, hsi, if_neg hbig]
    by_cases h0 : len * size = 0
    · simp only [if_pos h0] at k4 ⊢
      simp only [Sem.run_bind, Sem.run_pure, Result.andThen_ok]
      rw [k4]
      rfl
    · simp only [if_neg h0] at k4 ⊢
      simp only [Sem.run_bind, Sem.run_pure, Result.andThen_ok, zeroValue, typeInfo, run_program, hi, hzv]
      rw [k4]
      rfl
  rw [hexec]
  refine ⟨g', hle, hS', ?_⟩
  have := Rep.slice (g := g') (some id) ys us (some ⟨w.heap.size, 0, none⟩) len size k1 (by omega) hm (fun i x v h1 h2 => (k2 i x v h1 h2).mono hle) hus
    (.inr ⟨_, _, rfl, fun j u hu => by rw [Nat.zero_add, hG]; exact hu⟩) (fun id' hid => by cases hid; exact ⟨_, hrow, by simp [slen, hys], fun _ => by rw [hys]⟩)
  rw [hys] at this
  exact this
end
end Go.Ab
