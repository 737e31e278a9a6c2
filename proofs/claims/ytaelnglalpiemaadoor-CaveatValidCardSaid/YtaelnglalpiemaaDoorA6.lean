/- Operations that read or write boxes, and those that make them. -/
import Derived.Test.YtaelnglalpiemaaDoorA5
namespace Go.Ab
open Go.RowKit

section
variable {P : Program} {o : Oper} {s : Slots} {id : Nat}

theorem run_loadAt {g : Ghost} {y : AV} {u : Value} (hr : Rep g y u) {t : TypeId} (ht : tyIs P t y.isAgg y.sz = true) {b off : Nat} {w : World}
    (h : ∀ (j : Nat) (x : Value), u.cells.toList[j]? = some x → w.cell? ⟨b, off + j, none⟩ = some x) : (Instr.loadAt t (.pointer (some ⟨b, off, none⟩))).run P w = .ok u w := by
  obtain ⟨h1, h2⟩ := tyIs_sound ht w
  unfold Instr.loadAt loadVar
  simp only [Instr.sureAddr, Sem.run_bind, Sem.run_pure, Result.andThen_ok, h1]
  cases hy : y.isAgg with
  | true =>
    cases y <;> simp [AV.isAgg] at hy
    rename_i xs
    cases hr with
    | agg _ vs hl hr =>
      have hsz : (Value.agg (flat vs).toArray).cells.size = (AV.agg xs).sz := (Rep.agg xs vs hl hr).size
      have hlen : (flat vs).length = (AV.agg xs).sz := by simpa [cells_agg] using hsz
      have := run_loadCells_list (P := P) w ⟨b, off, none⟩ (flat vs) (fun j v hv => by rw [Addr.add_lit]; exact h j v (by simpa [cells_agg] using hv))
      rw [hlen] at this
      simp [h2, this]
  | false =>
    have hc : u.cells = #[u] := by
      cases hr <;> first | (simp [AV.isAgg] at hy; done) | rfl | (rename_i hv; exact oneCell_cells hv)
    have := h 0 u (by rw [hc]; rfl)
    simp at this
    simp [this]

theorem holds_load {t : TypeId} {x : Operand} {i off : Nat} {path : List Nat} {E : Ent} {bt : TypeId} {c y : AV} (ho : o.op = .load t x) (hx : aeval s x = .ptr i path off) (hE : E = .box bt c ∨ E = .fbox bt c) (hy : c.get path = some y) (hoff : c.offs path = off)
    (ht : tyIs P t y.isAgg y.sz = true) : OpHolds P o s id [(i, E)] y [] :=
  holds_read (fun p hp => by simp at hp; subst hp; rcases hE with rfl | rfl <;> simp) fun W0 g σ n w a hS hr hp => by
    have h1 := hr x (by simp [ho, Op.operands])
    rw [hx] at h1
    generalize hv : a.eval x = v at h1
    have hp' : σ i = E := hp (i, E) (by simp)
    cases h1 with
    | ptr _ _ _ b hb =>
      have key : ∃ v, Rep g c v ∧ w.heap[b]? = some (.cells v.cells bt (0, 0)) := by
        rcases hE with rfl | rfl
        · obtain ⟨b', v, h1, _, h3, h4, _⟩ := hS.box i bt c hp'
          rw [hb] at h1; cases h1; exact ⟨v, h3, h4⟩
        · obtain ⟨b', v, h1, _, h3, h4, _⟩ := hS.fbox i bt c hp'
          rw [hb] at h1; cases h1; exact ⟨v, h3, h4⟩
      obtain ⟨v, hrep, hheap⟩ := key
      obtain ⟨u, hu, _, hcu⟩ := hrep.get hy
      refine ⟨u, ?_, hu⟩
      have := run_loadAt (P := P) hu ht (b := b) (off := off) (w := w) fun j z hz => by
        rw [cell_of_row w b _ _ _ _ hheap, ← Array.getElem?_toList, ← hoff]
        exact hcu j z hz
      simp [execOp, ho, hv, this]

theorem holds_load_view {t : TypeId} {x : Operand} {y : AV} (ho : o.op = .load t x) (hx : aeval s x = .view y) (ht : tyIs P t y.isAgg y.sz = true) : OpHolds P o s id [] y [] :=
  holds_read (fun p hp => by cases hp) fun W0 g σ n w a hS hr _ => by
    have h1 := hr x (by simp [ho, Op.operands])
    rw [hx] at h1
    generalize hv : a.eval x = v at h1
    cases h1 with
    | view _ u b off hu hc =>
      refine ⟨u, ?_, hu⟩
      have := run_loadAt (P := P) hu ht (b := b) (off := off) (w := w) fun j z hz => hS.imm _ _ _ (hc j z hz)
      simp [execOp, ho, hv, this]

theorem run_storeAt {t : TypeId} {u : Value} {k : Nat} (ht : sizeIs P t k = true) (hk : u.cells.size = k) (h1 : ∀ z ∈ u.cells.toList, z.oneCell' = true) {b off : Nat} {w : World} {cur : Array Value} {bt : TypeId}
    (hg : w.heap[b]? = some (.cells cur bt (0, 0))) (hfit : off + u.cells.size ≤ cur.size) :
    (Instr.storeAt t (.pointer (some ⟨b, off, none⟩)) u).run P w = .ok () (w.setRow b (cur.toList.take off ++ u.cells.toList ++ cur.toList.drop (off + u.cells.size)).toArray) := by
  obtain ⟨i, hi, hs⟩ := sizeIs_sound ht
  have := run_storeCells_at P b off bt u.cells.toList 0 cur w hg (by simpa using hfit) h1
  simp only [Nat.add_zero, Array.length_toList] at this
  simp [Instr.storeAt, Instr.sureAddr, storeVar, sizeOf, typeInfo, hi, hs, hk, this]

theorem holds_store {t : TypeId} {x y : Operand} {i off : Nat} {path : List Nat} {bt : TypeId} {c old z : AV} (ho : o.op = .store t x y) (hx : aeval s x = .ptr i path off) (hz : aeval s y = z) (hy : c.get path = some old) (hoff : c.offs path = off)
    (hsz : old.sz = z.sz) (ht : sizeIs P t z.sz = true) (hc : z.cell = true) : OpHolds P o s id [(i, .box bt c)] (.tup []) [(i, .box bt (c.put path z))] := by
  refine ⟨fun p hp => by simp at hp; subst hp; simp, fun q hq => .inr ⟨(i, .box bt c), by simp, by simp at hq; subst hq; rfl⟩, fun W0 g σ n w a hS hr _ _ hp => ?_⟩
  have h1 := hr x (by simp [ho, Op.operands])
  have h2 := hr y (by simp [ho, Op.operands])
  rw [hx] at h1
  rw [hz] at h2
  generalize hv : a.eval x = v at h1
  generalize hu : a.eval y = u at h2
  have hp' : σ i = .box bt c := hp (i, .box bt c) (by simp)
  cases h1 with
  | ptr _ _ _ b hb =>
    obtain ⟨b', v, hb', _, hrep, hheap, _⟩ := hS.box i bt c hp'
    rw [hb] at hb'; cases hb'
    obtain ⟨u0, hu0, hub, _⟩ := hrep.get hy
    have husz : u0.cells.size = u.cells.size := by rw [hu0.size, h2.size, hsz]
    obtain ⟨v', hv', hvc⟩ := hrep.put hy h2 hsz
    have hst := run_storeAt (P := P) (u := u) ht h2.size (h2.cell_ok hc) (b := b) (off := off) hheap (by rw [← hoff, ← husz]; exact hub)
    have e1 : v'.cells = (v.cells.toList.take off ++ u.cells.toList ++ v.cells.toList.drop (off + u.cells.size)).toArray := by
      rw [← hoff, ← hvc]
    rw [← e1] at hst
    unfold runsTo
    have hexec : (execOp a.eval o).run P w = .ok .skip (w.setRow b v'.cells) := by simp [execOp, ho, hv, hu, hst]
    rw [hexec]
    exact ⟨g, g.le_refl, hS.store hp' hb hv', .tup [] [] rfl fun i x v h _ => by simp at h⟩

theorem holds_box {t : TypeId} {x : Operand} {z : AV} (ho : o.op = .box t x) (hx : aeval s x = z) : OpHolds P o s id [] (.ptr id [] 0) [(id, .box t z)] := by
  refine ⟨fun p hp => (by cases hp), fun q hq => .inl (by simp at hq; subst hq; rfl), fun W0 g σ n w a hS hr hf hn _ => ?_⟩
  have h1 := hr x (by simp [ho, Op.operands])
  rw [hx] at h1
  obtain ⟨g', hle, hS', hl⟩ := hS.newBox (t := t) hf hn h1
  unfold runsTo
  have hexec : (execOp a.eval o).run P w = .ok (.value (.pointer (some ⟨w.heap.size, 0, none⟩))) (w.alloc (.cells (a.eval x).cells t)) := by
    simp [execOp, ho, Instr.box, newVar, newRow]
  rw [hexec]
  exact ⟨g', hle, hS', .ptr id [] 0 _ hl⟩

theorem holds_alloc {t : TypeId} {z : AV} (ho : o.op = .alloc t) (hz : ztree P t = some z) : OpHolds P o s id [] (.ptr id [] 0) [(id, .box t z)] := by
  refine ⟨fun p hp => (by cases hp), fun q hq => .inl (by simp at hq; subst hq; rfl), fun W0 g σ n w a hS hr hf hn _ => ?_⟩
  obtain ⟨i, zv, hi, hzv, hrep⟩ := ztree_sound hz g
  obtain ⟨g', hle, hS', hl⟩ := hS.newBox (t := t) hf hn hrep
  unfold runsTo
  have hexec : (execOp a.eval o).run P w = .ok (.value (.pointer (some ⟨w.heap.size, 0, none⟩))) (w.alloc (.cells zv.cells t)) := by
    simp [execOp, ho, Instr.alloc, zeroValue, typeInfo, hi, hzv, newVar, newRow]
  rw [hexec]
  exact ⟨g', hle, hS', .ptr id [] 0 _ hl⟩

/-- The address of an element of an array in a box. -/
theorem holds_indexAddr_ptr {t e : TypeId} {x i : Operand} {j off len size : Nat} {path : List Nat} {k : IntKind} {n : Int} (ho : o.op = .indexAddr t x i) (ht : arrTy P t = some (len, e)) (hs : sizeIs P e size = true) (hx : aeval s x = .ptr j path off)
    (hi : aeval s i = .lit (.int k n)) (hn : 0 ≤ n) (hlt : n.toNat < len) : OpHolds P o s id [] (.ptr j (path ++ [n.toNat]) (off + n.toNat * size)) [] :=
  holds_pure fun g w a hr => by
    have h1 := hr x (by simp [ho, Op.operands])
    have h2 := hr i (by simp [ho, Op.operands])
    rw [hx] at h1
    rw [hi] at h2
    have e2 := rep_lit_inv h2
    generalize hv : a.eval x = v at h1
    obtain ⟨ie, hie, hsz⟩ := sizeIs_sound hs
    cases h1 with
    | ptr _ _ _ b hb =>
      refine ⟨_, ?_, .ptr _ _ _ b hb⟩
      have : n < (len : Int) := by omega
      simp [execOp, ho, hv, e2, Instr.indexAt, asIntOf, run_underlying (arrTy_sound ht), Instr.sureAddr, sizeOf, typeInfo, hie, hsz, Addr.add_lit, hn, this]

theorem holds_indexAddr_view {t e : TypeId} {x i : Operand} {len size : Nat} {xs : List AV} {y : AV} {k : IntKind} {n : Int} (ho : o.op = .indexAddr t x i) (ht : arrTy P t = some (len, e)) (hs : sizeIs P e size = true) (hx : aeval s x = .view (.agg xs))
    (hi : aeval s i = .lit (.int k n)) (hn : 0 ≤ n) (hlt : n.toNat < len) (hy : xs[n.toNat]? = some y) (hk : AV.szl (xs.take n.toNat) = n.toNat * size) : OpHolds P o s id [] (.view y) [] :=
  holds_pure fun g w a hr => by
    have h1 := hr x (by simp [ho, Op.operands])
    have h2 := hr i (by simp [ho, Op.operands])
    rw [hx] at h1
    rw [hi] at h2
    have e2 := rep_lit_inv h2
    generalize hv : a.eval x = v at h1
    obtain ⟨ie, hie, hsz⟩ := sizeIs_sound hs
    cases h1 with
    | view _ v b off h hc =>
      obtain ⟨u, hu, _, hcu⟩ := h.get (path := [n.toNat]) (y := y) (by simp [AV.get, hy])
      have : n < (len : Int) := by omega
      refine ⟨.pointer (some ⟨b, off + n.toNat * size, none⟩), ?_, .view y u b _ hu fun j x hx => ?_⟩
      · simp [execOp, ho, hv, e2, Instr.indexAt, asIntOf, run_underlying (arrTy_sound ht), Instr.sureAddr, sizeOf, typeInfo, hie, hsz, Addr.add_lit, hn, this]
      · have := hc _ _ (hcu j x hx)
        simp only [AV.offs, hy, Nat.add_zero, hk] at this
        rw [← this]; congr 1; omega
end
end Go.Ab
