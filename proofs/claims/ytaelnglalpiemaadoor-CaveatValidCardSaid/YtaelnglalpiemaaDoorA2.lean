/- What the relation Sim bears: a new block, a new box, a new row, a store into a box, an append to a row, a box that is written no more; rows that are written; a slice without spare places as a row. -/
import Derived.Test.YtaelnglalpiemaaDoorA1
namespace Go.Ab
open Go.RowKit

section
variable {W0 : World} {g : Ghost} {σ : Nat → Ent} {n : Nat} {w : World}

theorem Sim.G_lt (h : Sim W0 g σ n w) {b o : Nat} {v : Value} (hv : g.G b o = some v) : b < w.heap.size := World.block_lt_of_cell? w ⟨b, o, none⟩ (h.imm b o v hv)

theorem Sim.G_new (h : Sim W0 g σ n w) (o : Nat) : g.G w.heap.size o = none := by
  cases hv : g.G w.heap.size o with
  | none => rfl
  | some v => have := h.G_lt hv; omega

theorem Sim.blk_new (h : Sim W0 g σ n w) (i : Nat) : g.blk i ≠ some w.heap.size := fun hb => by have := h.lt hb; omega

theorem Sim.blk_free (h : Sim W0 g σ n w) {k : Nat} (hk : σ k = .none) : g.blk k = none := by
  obtain ⟨h1, h2, h3, h4⟩ := h.free k hk
  exact Ghost.blk_none h1 h2 h4

theorem cell_kept {w w' : World} {b o : Nat} (h : w'.heap[b]? = w.heap[b]?) : w'.cell? ⟨b, o, none⟩ = w.cell? ⟨b, o, none⟩ := by
  unfold World.cell?
  simp only [h]

/-- Any new block: nobody's. -/
theorem Sim.alloc (h : Sim W0 g σ n w) (o : Obj) : Sim W0 g σ n (w.alloc o) := by
  have old : ∀ b, b < w.heap.size → (w.alloc o).heap[b]? = w.heap[b]? := fun b hb => heap_alloc_old w o b hb
  refine ⟨h.below.alloc h.below.size o, fun b o' v hv => ?_, h.bound, fun id => (h.ents id).same g.le_refl rfl rfl rfl rfl fun b hb => ⟨old b (h.lt hb), fun _ => rfl⟩, h.sep, fun i b hb => ⟨(h.fresh i b hb).1, by simp; have := (h.fresh i b hb).2; omega⟩⟩
  rw [cell_kept (old b (h.G_lt hv))]; exact h.imm b o' v hv

theorem Ghost.le_G {g : Ghost} {b : Nat} (hG : ∀ o, g.G b o = none) (f : Nat → Option Value) : g.le { g with G := upd g.G b f } :=
  ⟨fun b' o v hv => by
    by_cases hb : b' = b
    · subst hb; rw [hG] at hv; cases hv
    · show upd g.G b f b' o = some v
      rw [upd_ne _ _ _ _ hb]; exact hv, fun _ _ h => h, fun _ u h => ⟨u, h, .inl rfl⟩, fun _ u h => ⟨u, h, .inl rfl⟩⟩

/-- Cells of a block that nobody owns and that no reading names become cells that are never written. -/
theorem Sim.fix (h : Sim W0 g σ n w) {b : Nat} (hG : ∀ o, g.G b o = none) (hfree : ∀ i, g.blk i ≠ some b) (f : Nat → Option Value) (hf : ∀ o v, f o = some v → w.cell? ⟨b, o, none⟩ = some v) :
    g.le { g with G := upd g.G b f } ∧ Sim W0 { g with G := upd g.G b f } σ n w := by
  have hle := Ghost.le_G hG f
  refine ⟨hle, h.below, fun b' o v hv => ?_, h.bound, fun id => (h.ents id).same hle rfl rfl rfl rfl fun b' hb' => ⟨rfl, fun o => ?_⟩, h.sep, h.fresh⟩
  · by_cases hb : b' = b
    · subst hb; simp only [upd_same] at hv; exact hf o v hv
    · simp only [upd_ne _ _ _ _ hb] at hv; exact h.imm b' o v hv
  · have hne : b' ≠ b := fun e => hfree id (e ▸ hb')
    show upd g.G b f b' o = g.G b' o
    rw [upd_ne _ _ _ _ hne]

theorem Ghost.le_loc {g : Ghost} {k : Nat} (hl : g.loc k = none) (b : Nat) : g.le { g with loc := upd g.loc k (some b) } :=
  ⟨fun _ _ _ h => h, fun id b' hb' => by
    have : id ≠ k := by rintro rfl; rw [hl] at hb'; cases hb'
    simpa [upd_ne _ _ _ _ this] using hb', fun _ u h => ⟨u, h, .inl rfl⟩, fun _ u h => ⟨u, h, .inl rfl⟩⟩

/-- A block that nobody owns becomes a box. -/
theorem Sim.addBox (h : Sim W0 g σ n w) {k b : Nat} {t : TypeId} {x : AV} {v : Value} (hk : σ k = .none) (hn : k < n) (hb : w.heap[b]? = some (.cells v.cells t (0, 0))) (hr : Rep g x v)
    (hW : W0.heap.size ≤ b) (hG : ∀ o, g.G b o = none) (hfree : ∀ i, g.blk i ≠ some b) :
    g.le { g with loc := upd g.loc k (some b) } ∧ Sim W0 { g with loc := upd g.loc k (some b) } (upd σ k (.box t x)) n w := by
  obtain ⟨hl, hrw, ho, hm⟩ := h.free k hk
  have hle := Ghost.le_loc hl b
  have hbk : Ghost.blk { g with loc := upd g.loc k (some b) } k = some b := by simp [Ghost.blk, upd]
  refine ⟨hle, h.change hn hle h.below h.imm (fun id hid => ⟨by simp [upd_ne _ _ _ _ hid], rfl, rfl, rfl⟩) (fun id hid b' hb' => ⟨⟨rfl, fun _ => rfl⟩, ?_⟩) ?_ (fun b' hb' => ?_) (Nat.le_refl _)⟩
  · rw [hbk]; intro e; cases e; exact hfree id hb'
  · exact ⟨hrw, ho, hm, b, v, by simp [upd_same], hr.mono hle, hb, hG⟩
  · rw [hbk] at hb'; cases hb'; exact ⟨hW, (Array.getElem?_eq_some_iff.1 hb).1⟩

/-- A new box. -/
theorem Sim.newBox (h : Sim W0 g σ n w) {k : Nat} {t : TypeId} {x : AV} {v : Value} (hk : σ k = .none) (hn : k < n) (hr : Rep g x v) :
    ∃ g', g.le g' ∧ Sim W0 g' (upd σ k (.box t x)) n (w.alloc (.cells v.cells t)) ∧ g'.loc k = some w.heap.size := by
  have h1 := (h.alloc (.cells v.cells t)).addBox (b := w.heap.size) hk hn (heap_alloc_new w _) hr h.below.size h.G_new h.blk_new
  exact ⟨_, h1.1, h1.2, by simp [upd_same]⟩

/-- A row: a nil slice, or a block that nobody owns and that no reading names. -/
theorem Sim.addRow (h : Sim W0 g σ n w) {k : Nat} {e : TypeId} {size m : Nat} {u : Value} {cells : List Value} (hk : σ k = .none) (hn : k < n) (hown : ownsR w W0.heap.size e size u m cells) (hlen : slen u = m)
    (hG : ∀ b, u.ownBlock = some b → ∀ o, g.G b o = none) (hfree : ∀ b, u.ownBlock = some b → ∀ i, g.blk i ≠ some b) :
    ∃ g', g.le g' ∧ Sim W0 g' (upd σ k (.row e size m)) n w ∧ g'.row k = some u ∧ (∀ b, u.ownBlock = some b → ∀ o, g'.G b o = cells[o]?) := by
  obtain ⟨hl, hrw, ho, hm⟩ := h.free k hk
  obtain ⟨F, hF, hFo⟩ : ∃ F : Nat → Nat → Option Value, (∀ b, u.ownBlock = some b → F b = fun o => cells[o]?) ∧ (∀ b, u.ownBlock ≠ some b → F b = g.G b) := by
    refine ⟨fun b => if u.ownBlock = some b then fun o => cells[o]? else g.G b, fun b hb => by simp [hb], fun b hb => by simp [hb]⟩
  have hcell : ∀ b, u.ownBlock = some b → ∀ o v, cells[o]? = some v → w.cell? ⟨b, o, none⟩ = some v := fun b hb o v hv => by
    exact hown.cells hb o v hv
  let g' : Ghost := { g with G := F, row := upd g.row k (some u), own := upd g.own k u.ownBlock }
  have hle : g.le g' := by
    refine ⟨fun b o v hv => ?_, fun _ _ h => h, fun id u' hu' => ?_, fun _ u h => ⟨u, h, .inl rfl⟩⟩
    · have hne : u.ownBlock ≠ some b := fun hb => by rw [hG b hb o] at hv; cases hv
      show F b o = some v
      rw [hFo b hne]; exact hv
    · have hne : id ≠ k := by rintro rfl; rw [hrw] at hu'; cases hu'
      exact ⟨u', by show upd g.row k (some u) id = some u'; rw [upd_ne _ _ _ _ hne]; exact hu', .inl rfl⟩
  have hbk : g'.blk k = u.ownBlock := by simp [Ghost.blk, g', hl, upd]
  refine ⟨g', hle, h.change hn hle h.below (fun b o v hv => ?_) (fun id hid => ⟨rfl, by simp [g', upd_ne _ _ _ _ hid], by simp [g', upd_ne _ _ _ _ hid], rfl⟩) (fun id hid b hb => ⟨⟨rfl, fun o => ?_⟩, ?_⟩) ?_ (fun b hb => ?_) (Nat.le_refl _),
    by simp [g', upd_same], fun b hb o => by show F b o = _; rw [hF b hb]⟩
  · have hv' : F b o = some v := hv
    by_cases hb : u.ownBlock = some b
    · rw [hF b hb] at hv'; exact hcell b hb o v hv'
    · rw [hFo b hb] at hv'; exact h.imm b o v hv'
  · show F b o = _
    rw [hFo b fun e => hfree b e id hb]
  · rw [hbk]; exact fun e => hfree b e id hb
  · exact ⟨hl, u, cells, by simp [g', upd_same], hlen, .inl ⟨hown, by simp [g', upd_same], fun b hb o => by show F b o = _; rw [hF b hb]⟩⟩
  · rw [hbk] at hb; exact hown.lt b hb

/-- A new row, in a new block. -/
theorem Sim.newRow (h : Sim W0 g σ n w) {k : Nat} {e : TypeId} {size m : Nat} {cells : List Value} (hk : σ k = .none) (hn : k < n) (cur : Array Value) (cap : Nat) (hlen : cells.length = m * size) (hmc : m ≤ cap) (hcm : cap ≤ maxLen)
    (hcur : cur.size = cap * size) (htake : cur.toList.take (m * size) = cells) :
    ∃ g', g.le g' ∧ Sim W0 g' (upd σ k (.row e size m)) n (w.alloc (.cells cur e)) ∧ g'.row k = some (.slice (some ⟨w.heap.size, 0, none⟩) m cap) ∧ (∀ o, g'.G w.heap.size o = cells[o]?) := by
  have hown : ownsR (w.alloc (.cells cur e)) W0.heap.size e size (.slice (some ⟨w.heap.size, 0, none⟩) m cap) m cells :=
    ⟨hlen, .inr ⟨w.heap.size, cap, cur, (0, 0), rfl, h.below.size, heap_alloc_new w _, noFz_zero _, hmc, hcm, hcur, htake⟩⟩
  obtain ⟨g', h1, h2, h3, h4⟩ := (h.alloc (.cells cur e)).addRow hk hn hown rfl (fun b hb o => by simp [Value.ownBlock] at hb; subst hb; exact h.G_new o) (fun b hb i => by simp [Value.ownBlock] at hb; subst hb; exact h.blk_new i)
  exact ⟨g', h1, h2, h3, h4 _ rfl⟩

/-- A slice without spare places, as a row: what is appended goes into a new block. -/
theorem Sim.addClip (h : Sim W0 g σ n w) {k : Nat} {e : TypeId} {size m : Nat} {A : Addr} {cells : List Value} (hk : σ k = .none) (hn : k < n) (hlen : cells.length = m * size) (hm : m ≤ maxLen) (hcell : ∀ (j : Nat) (v : Value), cells[j]? = some v → A.spot = none ∧ g.G A.block (A.off + j) = some v) :
    ∃ g', g.le g' ∧ Sim W0 g' (upd σ k (.row e size m)) n w ∧ g'.row k = some (.slice (some A) m m) := by
  obtain ⟨hl, hrw, ho, hmr⟩ := h.free k hk
  let g' : Ghost := { g with row := upd g.row k (some (.slice (some A) m m)) }
  have hle : g.le g' := ⟨fun _ _ _ h => h, fun _ _ h => h, fun id u' hu' => by
    have hne : id ≠ k := by rintro rfl; rw [hrw] at hu'; cases hu'
    exact ⟨u', by show upd g.row k _ id = some u'; rw [upd_ne _ _ _ _ hne]; exact hu', .inl rfl⟩, fun _ u h => ⟨u, h, .inl rfl⟩⟩
  have hbk : g'.blk k = none := by simp [Ghost.blk, g', hl, upd, ho]
  exact ⟨g', hle, h.change hn hle h.below h.imm (fun id hid => ⟨rfl, by simp [g', upd_ne _ _ _ _ hid], rfl, rfl⟩) (fun id hid b hb => ⟨⟨rfl, fun _ => rfl⟩, by rw [hbk]; simp⟩)
    ⟨hl, _, cells, by simp [g', upd_same], rfl, .inr ⟨ho, hlen, hm, A, rfl, hcell⟩⟩ (fun b hb => by rw [hbk] at hb; cases hb) (Nat.le_refl _), by simp [g', upd_same]⟩

/-- A store into a box. -/
theorem Sim.store (h : Sim W0 g σ n w) {id b : Nat} {t : TypeId} {x x' : AV} {v' : Value} (hx : σ id = .box t x) (hb : g.loc id = some b) (hr : Rep g x' v') :
    Sim W0 g (upd σ id (.box t x')) n (w.setRow b v'.cells) := by
  have hE := h.ents id
  rw [hx] at hE
  obtain ⟨hrow, ho, hm, b0, v, hb0, hrep, hheap, hG⟩ := hE
  have : b0 = b := by rw [hb] at hb0; injection hb0 with e; exact e.symm
  subst this
  have hblk : g.blk id = some b0 := Ghost.blk_loc hb
  have hW := (h.fresh id b0 hblk).1
  have hidn : id < n := by
    rcases Nat.lt_or_ge id n with h' | h'
    · exact h'
    · have := h.bound id h'; rw [hx] at this; cases this
  have other : ∀ k, k ≠ b0 → (w.setRow b0 v'.cells).heap[k]? = w.heap[k]? := fun k hk => setRow_other w b0 k _ hk
  have hsz : (w.setRow b0 v'.cells).heap.size = w.heap.size := by simp [World.setRow]
  refine h.change hidn g.le_refl ⟨h.below.os, h.below.tape, h.below.output, by rw [hsz]; exact h.below.size, fun k hk => by rw [other k (by omega)]; exact h.below.block k hk⟩ (fun b' o u hu => ?_) (fun _ _ => ⟨rfl, rfl, rfl, rfl⟩)
    (fun i hi b' hb' => ?_) ⟨hrow, ho, hm, b0, v', hb, hr, setRow_heap w b0 _ _ _ _ hheap, hG⟩ (fun b' hb' => by rw [hsz]; exact h.fresh id b' hb') (by rw [hsz]; exact Nat.le_refl _)
  · have hne : b' ≠ b0 := by rintro rfl; rw [hG] at hu; cases hu
    rw [cell_kept (other b' hne)]; exact h.imm b' o u hu
  · have hne : b' ≠ b0 := fun e => hi (h.sep i id b' hb' (by rw [hblk, e]))
    exact ⟨⟨other b' hne, fun _ => rfl⟩, by rw [hblk]; intro e; cases e; exact hne rfl⟩

/-- A box that is written no more: its cells may be read by whoever holds a slice of them. -/
theorem Sim.freeze (h : Sim W0 g σ n w) {id b : Nat} {t : TypeId} {x : AV} (hx : σ id = .box t x) (hb : g.loc id = some b) :
    ∃ g', g.le g' ∧ Sim W0 g' (upd σ id (.fbox t x)) n w ∧ (∃ v, Rep g' x v ∧ ∀ (o : Nat), g'.G b o = v.cells[o]?) := by
  have hE := h.ents id
  rw [hx] at hE
  obtain ⟨hrow, ho, hm, b0, v, hb0, hrep, hheap, hG⟩ := hE
  have : b0 = b := by rw [hb] at hb0; injection hb0 with e; exact e.symm
  subst this
  have hblk : g.blk id = some b0 := Ghost.blk_loc hb
  have hidn : id < n := by
    rcases Nat.lt_or_ge id n with h' | h'
    · exact h'
    · have := h.bound id h'; rw [hx] at this; cases this
  let g' : Ghost := { g with G := upd g.G b0 fun o => v.cells[o]? }
  have hle : g.le g' := Ghost.le_G hG _
  refine ⟨g', hle, h.change hidn hle h.below (fun b' o u hu => ?_) (fun _ _ => ⟨rfl, rfl, rfl, rfl⟩) (fun i hi b' hb' => ?_) ⟨hrow, ho, hm, b0, v, hb, hrep.mono hle, hheap, fun o => by simp [g', upd_same]⟩ (fun b' hb' => h.fresh id b' hb') (Nat.le_refl _), v, hrep.mono hle, fun o => by simp [g', upd_same]⟩
  · by_cases hne : b' = b0
    · subst hne
      have hu' : upd g.G b' (fun o => v.cells[o]?) b' o = some u := hu
      rw [upd_same] at hu'
      rw [cell_of_row w b' o _ _ _ hheap]; exact hu'
    · have hu' : upd g.G b0 (fun o => v.cells[o]?) b' o = some u := hu
      rw [upd_ne _ _ _ _ hne] at hu'
      exact h.imm b' o u hu'
  · have hne : b' ≠ b0 := fun e => hi (h.sep i id b' hb' (by rw [hblk, e]))
    refine ⟨⟨rfl, fun o => ?_⟩, ?_⟩
    · show upd g.G b0 _ b' o = g.G b' o
      rw [upd_ne _ _ _ _ hne]
    · show g.blk id ≠ some b'
      rw [hblk]; intro e; cases e; exact hne rfl

/-- A row has grown, in place or into a new block: what the law of append leaves. -/
theorem Sim.grow (h : Sim W0 g σ n w) {id : Nat} {e : TypeId} {size k m : Nat} (hx : σ id = .row e size k) {u u' : Value} {cells news : List Value} {w' : World}
    (hu : g.row id = some u) (hcells : ∀ b, g.own id = some b → ∀ (o : Nat), g.G b o = cells[o]?) (hown' : ownsR w' W0.heap.size e size u' (k + m) (cells ++ news)) (hlen : slen u = k) (hlen' : slen u' = k + m)
    (h1 : w'.os = w.os) (h2 : w'.tape = w.tape) (h3 : w'.output = w.output) (hsz : w.heap.size ≤ w'.heap.size)
    (hw : (u' = u ∧ m = 0 ∧ g.own id = u.ownBlock ∧ w'.heap = w.heap) ∨ (0 < m ∧ u'.ownBlock = u.ownBlock ∧ g.own id = u.ownBlock ∧ ∀ j, u.ownBlock ≠ some j → j < w.heap.size → w'.heap[j]? = w.heap[j]?) ∨
      (0 < m ∧ u'.ownBlock = some w.heap.size ∧ ∀ j, j < w.heap.size → w'.heap[j]? = w.heap[j]?)) :
    ∃ g', g.le g' ∧ Sim W0 g' (upd σ id (.row e size (k + m))) n w' ∧ g'.row id = some u' ∧ (∀ b, u'.ownBlock = some b → ∀ (o : Nat), g'.G b o = (cells ++ news)[o]?) := by
  have hE := h.ents id
  rw [hx] at hE
  obtain ⟨hl, u0, cells0, hu0, hlen0, hdis⟩ := hE
  have : u0 = u := by rw [hu] at hu0; injection hu0 with e; exact e.symm
  subst this
  have hblk : g.blk id = g.own id := Ghost.blk_row hl hu
  have hidn : id < n := by
    rcases Nat.lt_or_ge id n with h' | h'
    · exact h'
    · have := h.bound id h'; rw [hx] at this; cases this
  have hheap : ∀ j, g.own id ≠ some j → j < w.heap.size → w'.heap[j]? = w.heap[j]? := by
    intro j hj hlt
    rcases hw with ⟨_, _, _, h⟩ | ⟨_, _, h0, h⟩ | ⟨_, _, h⟩
    · rw [h]
    · exact h j (by rw [← h0]; exact hj) hlt
    · exact h j hlt
  have same_u : u'.ownBlock = g.own id ∨ u'.ownBlock = some w.heap.size := by
    rcases hw with ⟨rfl, _, h, _⟩ | ⟨_, h, h0, _⟩ | ⟨_, h, _⟩
    · exact .inl h.symm
    · exact .inl (h.trans h0.symm)
    · exact .inr h
  have hcur : ∀ b, g.own id = some b → ∀ o v, cells[o]? = some v → w'.cell? ⟨b, o, none⟩ = some v := by
    intro b hb o v hv
    rcases hw with ⟨_, _, _, hh⟩ | ⟨_, he, h0, _⟩ | ⟨_, _, hh⟩
    · have := h.imm b o v (by rw [hcells b hb]; exact hv)
      simpa [World.cell?, hh] using this
    · exact hown'.cells (he.trans (h0.symm.trans hb)) o v (by rw [List.getElem?_append_left (List.getElem?_eq_some_iff.1 hv).1]; exact hv)
    · have hblt : b < w.heap.size := (h.fresh id b (hblk.trans hb)).2
      rw [cell_kept (hh b hblt)]
      exact h.imm b o v (by rw [hcells b hb]; exact hv)
  let F : Nat → Nat → Option Value := fun b => if u'.ownBlock = some b then fun o => (cells ++ news)[o]? else g.G b
  have hF : ∀ b, u'.ownBlock = some b → F b = fun o => (cells ++ news)[o]? := fun b hb => by simp [F, hb]
  have hFo : ∀ b, u'.ownBlock ≠ some b → F b = g.G b := fun b hb => by simp [F, hb]
  let g' : Ghost := { g with G := F, row := upd g.row id (some u'), own := upd g.own id u'.ownBlock }
  have hle : g.le g' := by
    refine ⟨fun b o v hv => ?_, fun _ _ h => h, fun i v hv => ?_, fun _ u h => ⟨u, h, .inl rfl⟩⟩
    · show F b o = some v
      by_cases hb : u'.ownBlock = some b
      · rw [hF b hb]
        rcases same_u with he | he
        · have hv' : cells[o]? = some v := by rw [← hcells b (he.symm.trans hb)]; exact hv
          show (cells ++ news)[o]? = some v
          rw [List.getElem?_append_left (List.getElem?_eq_some_iff.1 hv').1]; exact hv'
        · have : b = w.heap.size := by rw [hb] at he; injection he
          subst this
          rw [h.G_new] at hv; cases hv
      · rw [hFo b hb]; exact hv
    · by_cases hi : i = id
      · subst hi
        have : v = u0 := by rw [hu] at hv; injection hv with e; exact e.symm
        subst this
        refine ⟨u', by show upd g.row i (some u') i = _; rw [upd_same], ?_⟩
        rcases hw with ⟨rfl, _⟩ | ⟨hm, _⟩ | ⟨hm, _⟩
        · exact .inl rfl
        · exact .inr (by omega)
        · exact .inr (by omega)
      · exact ⟨v, by show upd g.row id (some u') i = _; rw [upd_ne _ _ _ _ hi]; exact hv, .inl rfl⟩
  have hbk : g'.blk id = u'.ownBlock := by simp [Ghost.blk, g', hl, upd]
  have ne_u : ∀ i, i ≠ id → ∀ b, g.blk i = some b → g.own id ≠ some b ∧ u'.ownBlock ≠ some b ∧ b < w.heap.size := by
    intro i hi b hb
    have hlt := (h.fresh i b hb).2
    have h0 : g.own id ≠ some b := fun e => hi (h.sep i id b hb (hblk.trans e))
    refine ⟨h0, fun e => ?_, hlt⟩
    rcases same_u with he | he
    · exact h0 (he ▸ e)
    · rw [e] at he; injection he with he; omega
  have hW : ∀ b, g.own id = some b → W0.heap.size ≤ b := fun b hb => (h.fresh id b (hblk.trans hb)).1
  refine ⟨g', hle, h.change hidn hle ⟨h1.trans h.below.os, h2.trans h.below.tape, h3.trans h.below.output, Nat.le_trans h.below.size hsz, fun j hj => ?_⟩ (fun b o v hv => ?_) (fun i hi => ⟨rfl, by simp [g', upd_ne _ _ _ _ hi], by simp [g', upd_ne _ _ _ _ hi], rfl⟩)
    (fun i hi b hb => ?_) ?_ (fun b hb => ?_) hsz, by simp [g', upd_same], fun b hb o => by show F b o = _; rw [hF b hb]⟩
  · rw [hheap j (fun e => by have := hW j e; omega) (Nat.lt_of_lt_of_le hj h.below.size)]
    exact h.below.block j hj
  · have hv' : F b o = some v := hv
    by_cases hb : u'.ownBlock = some b
    · rw [hF b hb] at hv'
      exact hown'.cells hb o v hv'
    · rw [hFo b hb] at hv'
      by_cases hb0 : g.own id = some b
      · exact hcur b hb0 o v (by rw [← hcells b hb0]; exact hv')
      · rw [cell_kept (hheap b hb0 (h.G_lt hv'))]
        exact h.imm b o v hv'
  · obtain ⟨n1, n2, n3⟩ := ne_u i hi b hb
    exact ⟨⟨hheap b n1 n3, fun o => by show F b o = _; rw [hFo b n2]⟩, by rw [hbk]; exact n2⟩
  · exact ⟨hl, u', cells ++ news, by simp [g', upd_same], hlen', .inl ⟨hown', by simp [g', upd_same], fun b hb o => by show F b o = _; rw [hF b hb]⟩⟩
  · rw [hbk] at hb; exact hown'.lt b hb

/-! ### Rows that are written -/

/-- A row that may be written: nil, or a block that nobody owns and that no reading names. -/
theorem Sim.addM (h : Sim W0 g σ n w) {k : Nat} {e : TypeId} {size : Nat} {u : Value} {xs : List AV} {vs : List Value} (hk : σ k = .none) (hn : k < n) (hown : ownsR w W0.heap.size e size u xs.length (flat vs)) (hlen : slen u = xs.length)
    (hvl : vs.length = xs.length) (hvr : ∀ (i : Nat) (x : AV) (v : Value), xs[i]? = some x → vs[i]? = some v → Rep g x v) (hvs : ∀ v ∈ vs, v.cells.size = size)
    (hG : ∀ b, u.ownBlock = some b → ∀ o, g.G b o = none) (hfree : ∀ b, u.ownBlock = some b → ∀ i, g.blk i ≠ some b) :
    g.le { g with mr := upd g.mr k (some (0, u)) } ∧ Sim W0 { g with mr := upd g.mr k (some (0, u)) } (upd σ k (.mrow 0 e size xs)) n w := by
  obtain ⟨hl, hrw, ho, hm⟩ := h.free k hk
  have hle : g.le { g with mr := upd g.mr k (some (0, u)) } := ⟨fun _ _ _ h => h, fun _ _ h => h, fun _ u h => ⟨u, h, .inl rfl⟩, fun id u' hu' => by
    have hne : id ≠ k := by rintro rfl; rw [hm] at hu'; cases hu'
    exact ⟨u', by show upd g.mr k _ id = some u'; rw [upd_ne _ _ _ _ hne]; exact hu', .inl rfl⟩⟩
  have hbk : Ghost.blk { g with mr := upd g.mr k (some (0, u)) } k = u.ownBlock := by simp [Ghost.blk, hl, hrw, upd]
  refine ⟨hle, h.change hn hle h.below h.imm (fun id hid => ⟨rfl, rfl, rfl, by simp [upd_ne _ _ _ _ hid]⟩) (fun id hid b hb => ⟨⟨rfl, fun _ => rfl⟩, by rw [hbk]; exact fun e => hfree b e id hb⟩)
    ⟨hl, hrw, ho, u, vs, by simp [upd_same], hlen, hvl, fun i x v hx hv => (hvr i x v hx hv).mono hle, hvs, hown, hG⟩ (fun b hb => by rw [hbk] at hb; exact hown.lt b hb) (Nat.le_refl _)⟩

/-- A row that is written has other cells, or another block: a store, a copy, an append, a clearing. -/
theorem Sim.turnM (h : Sim W0 g σ n w) {id ver ver' : Nat} {e : TypeId} {size : Nat} {xs xs' : List AV} (hx : σ id = .mrow ver e size xs) {u u' : Value} {vs' : List Value} {w' : World}
    (hu : g.mr id = some (ver, u)) (hver : (ver' = ver ∧ u' = u) ∨ ver < ver') (hown' : ownsR w' W0.heap.size e size u' xs'.length (flat vs')) (hlen' : slen u' = xs'.length)
    (hvl : vs'.length = xs'.length) (hvr : ∀ (i : Nat) (x : AV) (v : Value), xs'[i]? = some x → vs'[i]? = some v → Rep g x v) (hvs : ∀ v ∈ vs', v.cells.size = size)
    (h1 : w'.os = w.os) (h2 : w'.tape = w.tape) (h3 : w'.output = w.output) (hsz : w.heap.size ≤ w'.heap.size)
    (hw : u'.ownBlock = u.ownBlock ∨ u'.ownBlock = some w.heap.size) (hheap : ∀ j, u.ownBlock ≠ some j → j < w.heap.size → w'.heap[j]? = w.heap[j]?) :
    ∃ g', g.le g' ∧ Sim W0 g' (upd σ id (.mrow ver' e size xs')) n w' ∧ g'.mr id = some (ver', u') ∧ g'.G = g.G := by
  have hE := h.ents id
  rw [hx] at hE
  obtain ⟨hl, hrw, ho, u0, vs, hu0, hlen0, hvl0, hvr0, hvs0, hown0, hG0⟩ := hE
  have : u0 = u := by rw [hu] at hu0; injection hu0 with e; injection e with _ e; exact e.symm
  subst this
  have hblk : g.blk id = u0.ownBlock := Ghost.blk_mr hl hrw hu
  have hidn : id < n := by
    rcases Nat.lt_or_ge id n with h' | h'
    · exact h'
    · have := h.bound id h'; rw [hx] at this; cases this
  let g' : Ghost := { g with mr := upd g.mr id (some (ver', u')) }
  have hle : g.le g' := ⟨fun _ _ _ h => h, fun _ _ h => h, fun _ u h => ⟨u, h, .inl rfl⟩, fun i x hx' => by
    by_cases hi : i = id
    · subst hi
      rw [hu] at hx'
      injection hx' with hx'
      subst hx'
      refine ⟨(ver', u'), by show upd g.mr i _ i = _; rw [upd_same], ?_⟩
      rcases hver with ⟨rfl, rfl⟩ | hver
      · exact .inl rfl
      · exact .inr hver
    · exact ⟨x, by show upd g.mr id _ i = _; rw [upd_ne _ _ _ _ hi]; exact hx', .inl rfl⟩⟩
  have hbk : g'.blk id = u'.ownBlock := by simp [Ghost.blk, g', hl, hrw, upd]
  have hW : ∀ b, u0.ownBlock = some b → W0.heap.size ≤ b := fun b hb => (h.fresh id b (hblk.trans hb)).1
  have ne_u : ∀ i, i ≠ id → ∀ b, g.blk i = some b → u0.ownBlock ≠ some b ∧ u'.ownBlock ≠ some b ∧ b < w.heap.size := by
    intro i hi b hb
    have hlt := (h.fresh i b hb).2
    have h0 : u0.ownBlock ≠ some b := fun e => hi (h.sep i id b hb (hblk.trans e))
    refine ⟨h0, fun e => ?_, hlt⟩
    rcases hw with he | he
    · exact h0 (he ▸ e)
    · rw [e] at he; injection he with he; omega
  refine ⟨g', hle, h.change hidn hle ⟨h1.trans h.below.os, h2.trans h.below.tape, h3.trans h.below.output, Nat.le_trans h.below.size hsz, fun j hj => ?_⟩ (fun b o v hv => ?_) (fun i hi => ⟨rfl, rfl, rfl, by simp [g', upd_ne _ _ _ _ hi]⟩)
    (fun i hi b hb => ?_) ?_ (fun b hb => ?_) hsz, by simp [g', upd_same], rfl⟩
  · rw [hheap j (fun e => by have := hW j e; omega) (Nat.lt_of_lt_of_le hj h.below.size)]
    exact h.below.block j hj
  · have hv' : g.G b o = some v := hv
    have hne : u0.ownBlock ≠ some b := fun e => by rw [hG0 b e] at hv'; cases hv'
    rw [cell_kept (hheap b hne (h.G_lt hv'))]
    exact h.imm b o v hv'
  · obtain ⟨n1, n2, n3⟩ := ne_u i hi b hb
    exact ⟨⟨hheap b n1 n3, fun o => rfl⟩, by rw [hbk]; exact n2⟩
  · refine ⟨hl, hrw, ho, u', vs', by simp [g', upd_same], hlen', hvl, fun i x v hx hv => (hvr i x v hx hv).mono hle, hvs, hown', fun b hb o => ?_⟩
    rcases hw with he | he
    · exact hG0 b (he ▸ hb) o
    · rw [hb] at he; injection he with he; subst he; exact h.G_new o
  · rw [hbk] at hb; exact hown'.lt b hb

/-- A row that is written no more. -/
theorem Sim.freezeM (h : Sim W0 g σ n w) {id ver : Nat} {e : TypeId} {size : Nat} {xs : List AV} (hx : σ id = .mrow ver e size xs) :
    ∃ g', g.le g' ∧ Sim W0 g' (upd σ id (.row e size xs.length)) n w ∧ ∃ u vs, g.mr id = some (ver, u) ∧ g'.row id = some u ∧ slen u = xs.length ∧ vs.length = xs.length ∧ (∀ (i : Nat) (x : AV) (v : Value), xs[i]? = some x → vs[i]? = some v → Rep g x v) ∧
      (∀ v ∈ vs, v.cells.size = size) ∧ ownsR w W0.heap.size e size u xs.length (flat vs) ∧ (∀ b, u.ownBlock = some b → ∀ (o : Nat), g'.G b o = (flat vs)[o]?) := by
  have hE := h.ents id
  rw [hx] at hE
  obtain ⟨hl, hrw, ho, u, vs, hu, hlen, hvl, hvr, hvs, hown, hG⟩ := hE
  have hblk : g.blk id = u.ownBlock := Ghost.blk_mr hl hrw hu
  have hidn : id < n := by
    rcases Nat.lt_or_ge id n with h' | h'
    · exact h'
    · have := h.bound id h'; rw [hx] at this; cases this
  let F : Nat → Nat → Option Value := fun b => if u.ownBlock = some b then fun o => (flat vs)[o]? else g.G b
  have hF : ∀ b, u.ownBlock = some b → F b = fun o => (flat vs)[o]? := fun b hb => by simp [F, hb]
  have hFo : ∀ b, u.ownBlock ≠ some b → F b = g.G b := fun b hb => by simp [F, hb]
  let g' : Ghost := { g with G := F, row := upd g.row id (some u), own := upd g.own id u.ownBlock }
  have hle : g.le g' := by
    refine ⟨fun b o v hv => ?_, fun _ _ h => h, fun i u' hu' => ?_, fun _ u h => ⟨u, h, .inl rfl⟩⟩
    · have hne : u.ownBlock ≠ some b := fun hb => by rw [hG b hb o] at hv; cases hv
      show F b o = some v
      rw [hFo b hne]; exact hv
    · have hne : i ≠ id := by rintro rfl; rw [hrw] at hu'; cases hu'
      exact ⟨u', by show upd g.row id (some u) i = some u'; rw [upd_ne _ _ _ _ hne]; exact hu', .inl rfl⟩
  have hbk : g'.blk id = u.ownBlock := by simp [Ghost.blk, g', hl, upd]
  refine ⟨g', hle, h.change hidn hle h.below (fun b o v hv => ?_) (fun i hi => ⟨rfl, by simp [g', upd_ne _ _ _ _ hi], by simp [g', upd_ne _ _ _ _ hi], rfl⟩) (fun i hi b hb => ?_) ?_ (fun b hb => ?_) (Nat.le_refl _),
    u, vs, hu, by simp [g', upd_same], hlen, hvl, hvr, hvs, hown, fun b hb o => by show F b o = _; rw [hF b hb]⟩
  · have hv' : F b o = some v := hv
    by_cases hb : u.ownBlock = some b
    · rw [hF b hb] at hv'
      exact hown.cells hb o v hv'
    · rw [hFo b hb] at hv'; exact h.imm b o v hv'
  · have hne : u.ownBlock ≠ some b := fun e => hi (h.sep i id b hb (hblk.trans e))
    exact ⟨⟨rfl, fun o => by show F b o = _; rw [hFo b hne]⟩, by rw [hbk]; exact hne⟩
  · exact ⟨hl, u, flat vs, by simp [g', upd_same], hlen, .inl ⟨hown, by simp [g', upd_same], fun b hb o => by show F b o = _; rw [hF b hb]⟩⟩
  · rw [hbk] at hb; exact hown.lt b hb
end
end Go.Ab
