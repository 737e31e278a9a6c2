/- Operations on rows that are written, and slices of what lies in a box. -/
import Derived.Test.YtaelnglalpiemaaDoorA10
namespace Go.Ab
open Go.RowKit

section
variable {P : Program} {o : Oper} {s : Slots} {id : Nat}

theorem runsTo.mono {a : Act} {w : World} {R R' : Value → World → Prop} (h : runsTo P o a w R) (hR : ∀ u w', R u w' → R' u w') : runsTo P o a w R' := by
  unfold runsTo at *
  generalize (execOp a.eval o).run P w = r at *
  cases r with
  | ok x w' =>
    cases x <;> simp only [runsUpon] at *
    · exact hR _ _ h
    · exact hR _ _ h
    · exact h.mono fun e w'' ⟨u, he, hu⟩ => ⟨u, he, hR _ _ hu⟩
  | halt x w' => simp [runsUpon] at h

/-- The slice of a whole row that is written, read when it is written no more. -/
theorem Rep.msFrozen {g g' : Ghost} {id ver size : Nat} {xs : List AV} {vs : List Value} {u v : Value} (hr : Rep g (.ms id ver size 0 xs.length) v) (hle : g.le g') (hm : g.mr id = some (ver, u)) (hlen : slen u = xs.length) (hrow : g'.row id = some u) (hvl : vs.length = xs.length)
    (hvr : ∀ (i : Nat) (x : AV) (v : Value), xs[i]? = some x → vs[i]? = some v → Rep g x v) (hvs : ∀ v ∈ vs, v.cells.size = size) (hG : ∀ b, u.ownBlock = some b → ∀ (o : Nat), g'.G b o = (flat vs)[o]?) :
    Rep g' (.slice (some id) xs) v := by
  cases hr with
  | ms _ _ _ _ _ ver' u' A c hm' hv hl hc h =>
    rw [hm] at hm'; cases hm'
    obtain ⟨A0, n0, c0, rfl, h1, h2, h3⟩ := h rfl
    obtain ⟨rfl, rfl⟩ := h2 rfl
    simp only [slen] at hlen
    subst hlen
    refine .slice (some id) xs vs A c size hvl hl hc (fun i x v h1 h2 => (hvr i x v h1 h2).mono hle) hvs ?_ (fun id' hid => by cases hid; exact ⟨_, hrow, by simp [slen], fun _ => rfl⟩)
    by_cases h0 : xs.length = 0
    · exact .inl h0
    · obtain ⟨b, hb, _⟩ := h3 (by omega)
      exact .inr ⟨b, 0, hb, fun j q hq => by rw [Nat.zero_add, hG b (by rw [hb]; rfl)]; exact hq⟩

/-- A part of it. -/
theorem Rep.msFrozenSub {g g' : Ghost} {id ver size lo len : Nat} {xs : List AV} {vs : List Value} {u v : Value} (hr : Rep g (.ms id ver size lo len) v) (hle : g.le g') (hm : g.mr id = some (ver, u)) (hlen : lo + len ≤ xs.length) (hvl : vs.length = xs.length)
    (hvr : ∀ (i : Nat) (x : AV) (v : Value), xs[i]? = some x → vs[i]? = some v → Rep g x v) (hvs : ∀ v ∈ vs, v.cells.size = size) (hG : ∀ b, u.ownBlock = some b → ∀ (o : Nat), g'.G b o = (flat vs)[o]?) :
    Rep g' (.slice none ((xs.drop lo).take len)) v := by
  cases hr with
  | ms _ _ _ _ _ ver' u' A c hm' hv hl hc h =>
    rw [hm] at hm'; cases hm'
    obtain ⟨A0, n0, c0, rfl, h1, h2, h3⟩ := h rfl
    have e : ((xs.drop lo).take len).length = len := by simp; omega
    have hwi : ∀ v ∈ vs.drop lo, v.cells.size = size := fun v hv => hvs v (List.mem_of_mem_drop hv)
    have := Rep.slice (g := g') none ((xs.drop lo).take len) ((vs.drop lo).take len) A c size (by simp [hvl]) (by rw [e]; exact hl) hc (fun i x v h1 h2 => by
        rw [List.getElem?_take, List.getElem?_drop] at h1 h2
        split at h1
        · rename_i hlt; rw [if_pos hlt] at h2; exact (hvr _ x v h1 h2).mono hle
        · cases h1) (fun v hv => hwi v (List.mem_of_mem_take hv)) (by
        rw [e]
        by_cases h0 : len = 0
        · exact .inl h0
        · obtain ⟨b, hb, hA⟩ := h3 (by omega)
          refine .inr ⟨b, lo * size, hA, fun j q hq => ?_⟩
          rw [flat_take _ size hwi, flat_drop _ size hvs, List.getElem?_take, List.getElem?_drop] at hq
          split at hq
          · rw [hG b (by rw [hb]; rfl)]; exact hq
          · cases hq) (fun id' hid => by cases hid)
    rw [e] at this
    exact this

/-- What makes a row that may be written makes one that grows alone. -/
theorem OpHolds.freezeNew {size : Nat} {e : TypeId} {ys : List AV} {n : Nat} (h : OpHolds P o s id [] (.ms id 0 size 0 n) [(id, .mrow 0 e size ys)]) (hn : ys.length = n) : OpHolds P o s id [] (.slice (some id) ys) [(id, .row e size n)] := by
  subst hn
  obtain ⟨h1, h2, h3⟩ := h
  refine ⟨h1, fun q hq => .inl (by simp at hq; subst hq; rfl), fun W0 g σ n w a hS hr hf hn hp => (h3 W0 g σ n w a hS hr hf hn hp).mono ?_⟩
  rintro u w' ⟨g', hle, hS', hrep⟩
  obtain ⟨g2, hle2, hS2, u2, vs, k1, k2, k3, k4, k5, k6, k7, k8⟩ := hS'.freezeM (id := id) (ver := 0) (e := e) (size := size) (xs := ys) (by simp [wr, upd_same])
  refine ⟨g2, hle.trans hle2, ?_, hrep.msFrozen hle2 k1 k3 k2 k4 k5 k6 k8⟩
  have : upd (wr σ [(id, Ent.mrow 0 e size ys)]) id (.row e size ys.length) = wr σ [(id, .row e size ys.length)] := by simp [wr, upd_upd]
  rw [← this]; exact hS2

theorem Sim.newM {W0 : World} {g : Ghost} {σ : Nat → Ent} {n : Nat} {w : World} (h : Sim W0 g σ n w) {k : Nat} {e : TypeId} {size : Nat} {xs : List AV} {vs : List Value} (hk : σ k = .none) (hn : k < n) (cur : Array Value) (cap : Nat) (hvl : vs.length = xs.length)
    (hvr : ∀ (i : Nat) (x : AV) (v : Value), xs[i]? = some x → vs[i]? = some v → Rep g x v) (hvs : ∀ v ∈ vs, v.cells.size = size) (hmc : xs.length ≤ cap) (hcm : cap ≤ maxLen) (hcur : cur.size = cap * size) (htake : cur.toList.take (xs.length * size) = flat vs) {fz : Nat × Nat} (hz : noFz fz cur.size) :
    ∃ g', g.le g' ∧ Sim W0 g' (upd σ k (.mrow 0 e size xs)) n (w.alloc (.cells cur e fz)) ∧ Rep g' (.ms k 0 size 0 xs.length) (.slice (some ⟨w.heap.size, 0, none⟩) xs.length cap) := by
  have hfl : (flat vs).length = xs.length * size := by rw [flat_length vs size hvs, hvl]
  have hown : ownsR (w.alloc (.cells cur e fz)) W0.heap.size e size (.slice (some ⟨w.heap.size, 0, none⟩) xs.length cap) xs.length (flat vs) :=
    ⟨hfl, .inr ⟨w.heap.size, cap, cur, fz, rfl, h.below.size, heap_alloc_new w _, hz, hmc, hcm, hcur, htake⟩⟩
  obtain ⟨h1, h2⟩ := (h.alloc (.cells cur e fz)).addM hk hn hown rfl hvl hvr hvs (fun b hb o => by simp [Value.ownBlock] at hb; subst hb; exact h.G_new o) (fun b hb i => by simp [Value.ownBlock] at hb; subst hb; exact h.blk_new i)
  exact ⟨_, h1, h2, .ms k 0 size 0 xs.length 0 _ _ cap (by simp [upd_same]; rfl) (Nat.le_refl _) hmc hcm fun _ => ⟨_, _, _, rfl, by omega, fun _ => ⟨rfl, rfl⟩, fun _ => ⟨_, rfl, by simp⟩⟩⟩

/-- A slice literal as a row that may be written. -/
theorem holds_buildSliceM {t e : TypeId} {len size : Nat} {parts : Array (Nat × Operand)} {ys : List AV} {z : AV} (ho : o.op = .buildSlice t len parts) (ht : sliceTy P t = some e) (hs : sizeIs P e size = true) (hz : ztree P e = some z) (hpos : 0 < size) (hzs : z.sz = size)
    (hlen : len * size ≤ 16777216) (hf : fillA (fun i => some (i * size, size)) (List.replicate len z) (parts.toList.map fun p => (p.1, aeval s p.2)) = some ys) (hys : ys.length = len) (hsz : ys.all (fun x => x.sz == size) = true) :
    OpHolds P o s id [] (.ms id 0 size 0 len) [(id, .mrow 0 e size ys)] := by
  refine ⟨fun p hp => (by cases hp), fun q hq => .inl (by simp at hq; subst hq; rfl), fun W0 g σ n w a hS hr hf0 hn _ => ?_⟩
  obtain ⟨i, zv, hi, hzv, hrep⟩ := ztree_sound hz g
  obtain ⟨ie, hie, hsi⟩ := sizeIs_sound hs
  rw [hi] at hie; cases hie
  have hzc : zv.cells.size = size := by rw [hrep.size, hzs]
  have hcells : ((Array.range (len * size)).map ((if len * size = 0 then #[] else zv.cells)[· % (if len * size = 0 then #[] else zv.cells).size]!)).toList = flat (List.replicate len zv) := by
    by_cases h0 : len * size = 0
    · have : len = 0 := by
        rcases Nat.mul_eq_zero.1 h0 with h | h
        · exact h
        · omega
      subst this
      simp [flat]
    · rw [if_neg h0]; exact flat_replicate len zv size hzc hpos
  obtain ⟨us, cells', k1, k2, k3, k4⟩ := fillA_sound _ ((parts.map fun (p : Nat × Operand) => (p.1, a.eval p.2)).toList) (List.replicate len z) ys (List.replicate len zv) _ hf (by simp) (parts_rep (by simpa [ho, Op.operands] using hr)) (by simp) (rep_replicate hrep len) hcells
  have hus : ∀ v ∈ us, v.cells.size = size := sizes_of k1 k2 hsz
  have hfl : (flat us).length = len * size := by rw [flat_length us size hus, k1, hys]
  have hm : len ≤ maxLen := by
    have : len ≤ len * size := Nat.le_mul_of_pos_right _ hpos
    unfold maxLen; omega
  obtain ⟨g', hle, hS', hrp⟩ := hS.newM (e := e) (size := size) (xs := ys) (vs := us) hf0 hn cells' len k1 k2 hus (by omega) hm (by rw [← Array.length_toList, k3, hfl]) (by rw [k3, List.take_of_length_le (by rw [hfl, hys]; exact Nat.le_refl _)]) (noFz_zero _)
  unfold runsTo
  have hexec : (execOp a.eval o).run P w = .ok (.value (.slice (some ⟨w.heap.size, 0, none⟩) len len)) (w.alloc (.cells cells' e)) := by
    have hbig : ¬ len * size > 2 ^ 24 := by omega
    simp only [execOp, ho, Instr.buildSlice, Sem.run_bind, run_underlying (sliceTy_sound ht), Result.andThen_ok, sizeOf, typeInfo, run_program, hi, Sem.run_pure, hsi, if_neg hbig]
    by_cases h0 : len * size = 0
    · simp only [if_pos h0] at k4 ⊢
      simp only [Sem.run_bind, Sem.run_pure, Result.andThen_ok]
      rw [k4]
      rfl
    · simp only [if_neg h0] at k4 ⊢
      simp only [Sem.run_bind, Sem.run_pure, Result.andThen_ok, zeroValue, typeInfo, run_program, hi, hzv]
      rw [k4]
      rfl
  rw [hexec]
  rw [hys] at hrp
  exact ⟨g', hle, hS', hrp⟩

/-- make, as a row that may be written. -/
theorem holds_makeSliceM {t e : TypeId} {size bytes : Nat} {z : AV} {x y : Operand} {k k' : IntKind} {n c : Int} (ho : o.op = .makeSlice t x y) (ht : sliceTy P t = some e) (hs : sizeIs P e size = true) (hb : bytesIs P e bytes = true) (hz : ztree P e = some z) (hzs : z.sz = size) (hpos : 0 < size)
    (hx : aeval s x = .lit (.int k n)) (hy : aeval s y = .lit (.int k' c)) (h0 : 0 ≤ n) (h1 : n ≤ c) (h2 : c ≤ 140737488355328) (h3 : bytes * c ≤ 140737488355328) :
    OpHolds P o s id [] (.ms id 0 size 0 n.toNat) [(id, .mrow 0 e size (List.replicate n.toNat z))] := by
  refine ⟨fun p hp => (by cases hp), fun q hq => .inl (by simp at hq; subst hq; rfl), fun W0 g σ N w a hS hr hf hn _ => ?_⟩
  have e1 := hr x (by simp [ho, Op.operands])
  have e2 := hr y (by simp [ho, Op.operands])
  rw [hx] at e1
  rw [hy] at e2
  have e1 := rep_lit_inv e1
  have e2 := rep_lit_inv e2
  obtain ⟨i, hi, hsi⟩ := sizeIs_sound hs
  have hbi : i.bytes = bytes := by unfold bytesIs at hb; rw [hi] at hb; simpa using hb
  obtain ⟨i', zv, hi', hzv, hrz⟩ := ztree_sound hz g
  rw [hi] at hi'; cases hi'
  have hzc : zv.cells.size = size := by rw [hrz.size, hzs]
  obtain ⟨n', rfl⟩ := Int.eq_ofNat_of_zero_le h0
  obtain ⟨c', rfl⟩ := Int.eq_ofNat_of_zero_le (Int.le_trans h0 h1)
  have hbc : (i.bytes : Int) * (c' : Int) ≤ 281474976710656 := by rw [hbi]; omega
  have hrun := run_make (P := P) w t e i zv (sliceTy_sound ht) hi hzv k k' (n' : Int) (c' : Int) h0 h1 hbc (by omega)
  simp only [Int.toNat_natCast] at hrun ⊢
  have hcur : (madeCells zv.cells (c' * i.size)).toList = flat (List.replicate c' zv) := by
    rw [hsi]; exact flat_replicate c' zv size hzc hpos
  have hcm : c' ≤ maxLen := by unfold maxLen; omega
  have hall : ∀ m, ∀ v ∈ List.replicate m zv, v.cells.size = size := fun m v hv => by rw [List.eq_of_mem_replicate hv]; exact hzc
  obtain ⟨g', hle, hS', hrp⟩ := hS.newM (e := e) (size := size) (xs := List.replicate n' z) (vs := List.replicate n' zv) hf hn (madeCells zv.cells (c' * i.size)) c' (by simp) (rep_replicate hrz n') (hall n') (by simp; omega) hcm
    (by rw [← Array.length_toList, hcur, flat_length _ size (hall c'), List.length_replicate])
    (by rw [hcur, ← flat_take _ size (hall c'), List.take_replicate, List.length_replicate, Nat.min_eq_left (by omega)]) (noFz_zero _)
  unfold runsTo
  have hexec : (execOp a.eval o).run P w = .ok (.value (.slice (some ⟨w.heap.size, 0, none⟩) n' c')) (w.alloc (.cells (madeCells zv.cells (c' * i.size)) e)) := by
    simp only [execOp, ho, e1, e2, Sem.run_bind, hrun, Result.andThen_ok, Sem.run_pure]
  rw [hexec]
  simp only [List.length_replicate] at hrp
  exact ⟨g', hle, hS', hrp⟩
end
end Go.Ab
