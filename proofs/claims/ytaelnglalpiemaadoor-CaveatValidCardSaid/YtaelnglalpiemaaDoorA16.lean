/- append(s, make([]T, n)...), as the text has it: n zeros behind a row of one's own. -/
import Derived.Test.YtaelnglalpiemaaDoorA15
import Derived.Lib.AppendZerosOnto
namespace Go.Ab
open Go.RowKit

section
variable {P : Program} {o : Oper} {s : Slots} {id : Nat}

theorem zeroCells_one {z : Value} {m : Nat} (hpos : 0 < z.cells.size) (h1 : ∀ u ∈ z.cells.toList, u.oneCell' = true) : ∀ u ∈ (Builtin.zeroCells z.cells m).toList, u.oneCell' = true := by
  intro u hu
  simp only [Builtin.zeroCells, Array.toList_map, List.mem_map] at hu
  obtain ⟨j, hj, rfl⟩ := hu
  have hlt : j % z.cells.size < z.cells.size := Nat.mod_lt _ hpos
  refine h1 _ ?_
  rw [getElem!_pos z.cells _ hlt]
  exact Array.getElem_mem_toList hlt

theorem run_append_zeros_room {w : World} {t tn ty e : TypeId} {i : TypeInfo} {z : Value} {k kn : IntKind} (ht : P.underlying t = some (.slice e)) (htn : P.underlying tn = some (.int kn)) (hi : P.info? e = some i) (hz : i.zero = some z) (hzs : z.cells.size = i.size) (hpos : 0 < i.size)
    {g sLen sCap : Nat} {cur : Array Value} {fz : Nat × Nat} (hg : w.heap[g]? = some (.cells cur e fz)) (hfz : noFz fz cur.size) {m : Nat} (hm : 0 < m) (h1 : ∀ u ∈ z.cells.toList, u.oneCell' = true) (hmb : m * i.bytes ≤ 140737488355328) (hm63 : m ≤ 140737488355328)
    (hroom : sLen + m ≤ sCap) (hfit : sLen * i.size + m * i.size ≤ cur.size) :
    (Builtin.append_ #[t, tn] ty #[.slice (some ⟨g, 0, none⟩) sLen sCap, .int k (m : Int)]).run P w =
      .ok (.slice (some ⟨g, 0, none⟩) (sLen + m) sCap) (w.setRow g (cur.toList.take (sLen * i.size) ++ (Builtin.zeroCells z.cells m).toList ++ cur.toList.drop (sLen * i.size + (Builtin.zeroCells z.cells m).toList.length)).toArray) := by
  have hzl : (Builtin.zeroCells z.cells m).toList.length = m * i.size := by rw [Array.length_toList, size_zeroCells, hzs]
  have hst := run_storeCells_fz (P := P) g (sLen * i.size) e fz (Builtin.zeroCells z.cells m).toList 0 cur w hg hfz (by rw [hzl]; simpa using hfit) (zeroCells_one (by omega) h1)
  simp only [Nat.add_zero] at hst
  have hw : IntKind.i64.wrap (m : Int) = m := by rw [IntKind.wrap_i64]; omega
  have hm0 : m ≠ 0 := by omega
  have hs0 : i.size ≠ 0 := by omega
  have h48i : ¬ (281474976710656 < (m : Int) * (i.bytes : Int)) := by
    rw [← Int.natCast_mul]
    omega
  have hneg : ¬ ((m : Int) < 0) := by omega
  have hmz : ¬ m * i.size = 0 := fun h => by rcases Nat.mul_eq_zero.1 h with h | h <;> omega
  simp [Builtin.append_, run_underlying ht, run_underlying htn, asInt, asIntOf, sizeOf, typeInfo, zeroValue, hi, hz, hw, h48i, hneg, hroom, hmz, Addr.add_lit, hst]

/-- append of n zeros to a row of one's own. -/
theorem holds_append_zeros {t tn e : TypeId} {size bytes r : Nat} {z : AV} {x y : Operand} {xs : List AV} {k kn : IntKind} {m : Int} (ho : o.op = .call { callee := .builtin .append, args := #[x, y], argTypes := #[t, tn] }) (ht : sliceTy P t = some e) (htn : intTy P tn = some kn) (hs : sizeIs P e size = true) (hb : bytesIs P e bytes = true)
    (hz : ztree P e = some z) (hzs : z.sz = size) (hzc : z.cell = true) (hpos : 0 < size) (hx : aeval s x = .slice (some r) xs) (hy : aeval s y = .lit (.int k m)) (h0 : 0 ≤ m)
    (hsx : xs.all (fun x => x.sz == size) = true) (hbytes : (xs.length + m.toNat) * bytes ≤ 140737488355328) (hmx : xs.length + m.toNat ≤ 140737488355328) :
    OpHolds P o s id [(r, .row e size xs.length)] (.slice (some r) (xs ++ List.replicate m.toNat z)) [(r, .row e size (xs.length + m.toNat))] := by
  refine ⟨fun p hp => by simp at hp; subst hp; simp, fun q hq => .inr ⟨(r, .row e size xs.length), by simp, by simp at hq; subst hq; rfl⟩, fun W0 g σ n w a hS hr _ _ hp => ?_⟩
  have h1 := hr x (by simp [ho, Op.operands, Call.operands])
  have h2 := hr y (by simp [ho, Op.operands, Call.operands])
  rw [hx] at h1
  rw [hy] at h2
  have e2 := rep_lit_inv h2
  obtain ⟨m, rfl⟩ := Int.eq_ofNat_of_zero_le h0
  simp only [Int.toNat_natCast] at hbytes hmx ⊢
  have hp' : σ r = .row e size xs.length := hp (r, .row e size xs.length) (by simp)
  obtain ⟨cs, he⟩ := execOp_builtin (P := P) (a := a) ho w
  have hE := hS.ents r
  rw [hp'] at hE
  obtain ⟨hl, u, cells0, hu, hlen, _⟩ := hE
  have hxu : a.eval x = u := by
    generalize hv : a.eval x = v at h1
    cases h1 with
    | slice _ _ vs A c size' hvl hc hm hvr hvs hcell hown' =>
      obtain ⟨u', hu', _, h3⟩ := hown' r rfl
      rw [hu] at hu'
      cases hu'
      exact h3 hlen.symm
  obtain ⟨i0, zv0, hi0, hzv0, hrz0⟩ := ztree_sound hz g
  have hbi : i0.bytes = bytes := by unfold bytesIs at hb; rw [hi0] at hb; simpa using hb
  have hmb : m * i0.bytes ≤ 140737488355328 := by
    rw [hbi]
    exact Nat.le_trans (Nat.mul_le_mul_right _ (by omega)) hbytes
  have hzsz : zv0.cells.size = size := by rw [hrz0.size, hzs]
  have hall : ∀ v ∈ List.replicate m zv0, v.cells.size = size := fun v hv => by rw [List.eq_of_mem_replicate hv]; exact hzsz
  have hfl : flat (List.replicate m zv0) = (Builtin.zeroCells zv0.cells m).toList := by
    rw [← flat_replicate m zv0 size hzsz hpos]
    simp [Builtin.zeroCells, hzsz]
  have hone : ∀ q ∈ zv0.cells.toList, q.oneCell' = true := hrz0.cell_ok hzc
  have hl2 : (List.replicate m z).length = m := by simp
  have key := append_gen (P := P) (R := fun u' w' => (Builtin.append_ #[t, tn] o.type #[u, .int k (m : Int)]).run P w = .ok u' w') (ys := List.replicate m z) (us := List.replicate m zv0) hs hz hzs hS hp' hu rfl (.inr (by rw [← hxu]; exact h1)) hsx (by simp) (rep_replicate hrz0 m) hall
    (fun hm0 ⟨A', c', hu', hc'⟩ => by
      rw [hl2] at hm0
      subst hm0 hu'
      cases A' <;> simp [Builtin.append_, run_underlying (sliceTy_sound ht), run_underlying (intTy_sound htn), asInt, asIntOf, sizeOf, typeInfo, hi0, IntKind.wrap_i64, hc', storeCells])
    (fun i zv cells hi hzv hsi hzc' hrz hown hpos' => by
      rw [hi0] at hi; cases hi
      rw [hzv0] at hzv; cases hzv
      rw [hl2] at hpos' ⊢
      rw [hfl]
      rcases hown.2 with ⟨rfl, hk0⟩ | ⟨g0, cap, cur, fz, rfl, hbg, hg, hfz, hnc, hcm, hcs, htake⟩
      · have hcl : cells = [] := List.eq_nil_of_length_eq_zero (by rw [hown.1, hk0]; simp)
        subst hcl
        have hr := Go.Lib.run_append_nil_zeros (P := P) w t tn o.type e i0 zv0 k kn (sliceTy_sound ht) (intTy_sound htn) hi0 hzv0 m hpos' (by omega) (by omega) (by omega)
        have hge := grownCap_ge w m 0 e
        have hcm := grownCap_le_maxLen w m 0 e (by unfold maxLen; omega)
        rw [hk0, Nat.zero_add]
        refine ⟨_, _, hr, ⟨by simp [size_zeroCells, hzc'], .inr ⟨w.heap.size, _, _, (0, 0), rfl, hS.below.size, heap_alloc_new w.drew _, noFz_zero _, hge, hcm, ?_, ?_⟩⟩, rfl, rfl, rfl, rfl, by simp, .inr ⟨hpos', rfl, fun j hj => heap_alloc_old w.drew _ j hj⟩⟩
        · simp only [Array.size_append, size_zeroCells, hzc', ← Nat.add_mul]
          congr 1; omega
        · have : (Builtin.zeroCells zv0.cells m).toList.length = m * i0.size := by rw [Array.length_toList, size_zeroCells, hzc']
          rw [← this]
          simp
      · by_cases hroom : xs.length + m ≤ cap
        · have hfit : xs.length * i0.size + m * i0.size ≤ cur.size := by rw [hcs, ← Nat.add_mul]; exact Nat.mul_le_mul_right _ hroom
          have hr := run_append_zeros_room (P := P) (k := k) (ty := o.type) (sliceTy_sound ht) (intTy_sound htn) hi0 hzv0 hzc' (by omega) hg hfz hpos' hone hmb (by omega) hroom hfit
          have hzl : (Builtin.zeroCells zv0.cells m).toList.length = m * i0.size := by rw [Array.length_toList, size_zeroCells, hzc']
          have hlenA : (cells ++ (Builtin.zeroCells zv0.cells m).toList).length = (xs.length + m) * i0.size := by rw [List.length_append, hown.1, hzl, Nat.add_mul]
          have hcz : (cur.toList.take (xs.length * i0.size) ++ (Builtin.zeroCells zv0.cells m).toList ++ cur.toList.drop (xs.length * i0.size + (Builtin.zeroCells zv0.cells m).toList.length)).toArray.size = cur.size := by
            simp only [List.size_toArray, List.length_append, List.length_take, List.length_drop, Array.length_toList] at hzl ⊢
            omega
          refine ⟨_, _, hr, ⟨hlenA, .inr ⟨g0, cap, _, fz, rfl, hbg, setRow_heap w g0 cur _ e _ hg, by rw [hcz]; exact hfz, hroom, hcm, by rw [hcz]; exact hcs, ?_⟩⟩, rfl, rfl, rfl, rfl, by simp [World.setRow], .inl ⟨hpos', rfl, fun j hj _ => setRow_other w g0 j _ (fun e => hj (by simp [Value.ownBlock, e]))⟩⟩
          rw [htake, ← hlenA]
          exact List.take_left
        · have hold : (Builtin.firstCells i0.size xs.length (.slice (some ⟨g0, 0, none⟩) xs.length cap)).run P w.drew = .ok cells.toArray w.drew :=
            run_firstCells_some (P := P) w.drew i0.size xs.length ⟨g0, 0, none⟩ xs.length cap cells hown.1 fun j q hq => by rw [Addr.add_lit, Nat.zero_add]; exact hown.cells (g := g0) rfl j q hq
          have hr := Go.Lib.run_append_grow_zeros (P := P) w t tn o.type e i0 zv0 k kn (sliceTy_sound ht) (intTy_sound htn) hi0 hzv0 (some ⟨g0, 0, none⟩) xs.length cap cells hold m hpos' (by omega) (by omega) (by omega) (by omega) (growslice_fits (by omega) (by rw [hbi]; exact hbytes))
          have hge := grownCap_ge w (xs.length + m) cap e
          have hcm' := grownCap_le_maxLen w (xs.length + m) cap e (by unfold maxLen; omega)
          have hzl : (Builtin.zeroCells zv0.cells m).toList.length = m * i0.size := by rw [Array.length_toList, size_zeroCells, hzc']
          have hlenA : (cells ++ (Builtin.zeroCells zv0.cells m).toList).length = (xs.length + m) * i0.size := by rw [List.length_append, hown.1, hzl, Nat.add_mul]
          refine ⟨_, _, hr, ⟨hlenA, .inr ⟨w.heap.size, _, _, (0, 0), rfl, hS.below.size, heap_alloc_new w.drew _, noFz_zero _, hge, hcm', ?_, ?_⟩⟩, rfl, rfl, rfl, rfl, by simp, .inr ⟨hpos', rfl, fun j hj => heap_alloc_old w.drew _ j hj⟩⟩
          · simp only [Array.size_append, List.size_toArray, size_zeroCells, hzc', hown.1, ← Nat.add_mul]
            congr 1; omega
          · simp only [Array.toList_append, List.append_assoc]
            rw [← List.append_assoc, ← hlenA]
            exact List.take_left)
    (fun i zv A0 cells hi hzv hsi hzc' hrz hu' hcl hcells hpos' => by
      rw [hi0] at hi; cases hi
      rw [hzv0] at hzv; cases hzv
      rw [hl2] at hpos' ⊢
      rw [hfl]
      subst hu'
      have hold : (Builtin.firstCells i0.size xs.length (.slice (some A0) xs.length xs.length)).run P w.drew = .ok cells.toArray w.drew :=
        run_firstCells_some (P := P) w.drew i0.size xs.length A0 xs.length xs.length cells hcl (fun j q hq => hcells j q hq)
      have hr := Go.Lib.run_append_grow_zeros (P := P) w t tn o.type e i0 zv0 k kn (sliceTy_sound ht) (intTy_sound htn) hi0 hzv0 (some A0) xs.length xs.length cells hold m hpos' (by omega) (by omega) (by omega) (by omega) (growslice_fits (by omega) (by rw [hbi]; exact hbytes))
      have hge := grownCap_ge w (xs.length + m) xs.length e
      have hcm' := grownCap_le_maxLen w (xs.length + m) xs.length e (by unfold maxLen; omega)
      have hzl : (Builtin.zeroCells zv0.cells m).toList.length = m * i0.size := by rw [Array.length_toList, size_zeroCells, hzc']
      have hlenA : (cells ++ (Builtin.zeroCells zv0.cells m).toList).length = (xs.length + m) * i0.size := by rw [List.length_append, hcl, hzl, Nat.add_mul]
      refine ⟨_, _, hr, ⟨hlenA, .inr ⟨w.heap.size, _, _, (0, 0), rfl, hS.below.size, heap_alloc_new w.drew _, noFz_zero _, hge, hcm', ?_, ?_⟩⟩, rfl, rfl, rfl, rfl, by simp, ⟨hpos', rfl, fun j hj => heap_alloc_old w.drew _ j hj⟩⟩
      · simp only [Array.size_append, List.size_toArray, size_zeroCells, hzc', hcl, ← Nat.add_mul]
        congr 1; omega
      · simp only [Array.toList_append, List.append_assoc]
        rw [← List.append_assoc, ← hlenA]
        exact List.take_left)
  obtain ⟨u', w', g', hrun, hle, hS', hrep⟩ := key
  rw [hl2] at hS'
  unfold runsTo
  have hexec : (execOp a.eval o).run P w = .ok (.value u') w' := by
    rw [he]
    simp [builtin, hxu, e2, hrun]
  rw [hexec]
  exact ⟨g', hle, hS', hrep⟩
end
end Go.Ab
