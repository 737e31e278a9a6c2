/- What the relation Sim bears: a new block, a new box, a new row, a store into a box, an append to a row, a box that is written no more. -/
import Derived.Test.YtmhehlfocfhpkaaA1
namespace Go.Ab
open Go.RowKit

section
variable {W0 : World} {g : Ghost} {σ : Nat → Ent} {n : Nat} {w : World}

theorem Sim.G_lt (h : Sim W0 g σ n w) {b o : Nat} {v : Value} (hv : g.G b o = some v) : b < w.heap.size := World.block_lt_of_cell? w ⟨b, o, none⟩ (h.imm b o v hv)

theorem Sim.G_new (h : Sim W0 g σ n w) (o : Nat) : g.G w.heap.size o = none := by
  cases hv : g.G w.heap.size o with
  | none => rfl
  | some v => have := h.G_lt hv; omega

theorem Sim.blk_new (h : Sim W0 g σ n w) (i : Nat) : g.blk i ≠ some w.heap.size := fun hb => by have := h.lt hb; omega

/-- Any new block: nobody's. -/
theorem Sim.alloc (h : Sim W0 g σ n w) (o : Obj) : Sim W0 g σ n (w.alloc o) := by
  have old : ∀ b, b < w.heap.size → (w.alloc o).heap[b]? = w.heap[b]? := fun b hb => heap_alloc_old w o b hb
  refine ⟨h.below.alloc h.below.size o, fun b o' v hv => ?_, h.free, h.bound, fun id t x hx => ?_, fun id t x hx => ?_, fun id e size k hx => ?_, h.sep, fun i b hb => ⟨(h.fresh i b hb).1, by simp; have := (h.fresh i b hb).2; omega⟩⟩
  · rw [World.cell?_alloc_lt w o ⟨b, o', none⟩ (h.G_lt hv)]; exact h.imm b o' v hv
  · obtain ⟨b, v, h1, h2, h3, h4, h5⟩ := h.box id t x hx
    exact ⟨b, v, h1, h2, h3, by rw [old b (Array.getElem?_eq_some_iff.1 h4).1]; exact h4, h5⟩
  · obtain ⟨b, v, h1, h2, h3, h4, h5⟩ := h.fbox id t x hx
    exact ⟨b, v, h1, h2, h3, by rw [old b (Array.getElem?_eq_some_iff.1 h4).1]; exact h4, h5⟩
  · obtain ⟨u, cells, h1, h2, h3, h4⟩ := h.row id e size k hx
    exact ⟨u, cells, h1, h2, h3.alloc o, h4⟩

/-- Cells of a block that nobody owns and that no reading names become cells that are never written. -/
theorem Sim.fix (h : Sim W0 g σ n w) {b : Nat} (hG : ∀ o, g.G b o = none) (hfree : ∀ i, g.blk i ≠ some b) (f : Nat → Option Value) (hf : ∀ o v, f o = some v → w.cell? ⟨b, o, none⟩ = some v) :
    g.le { g with G := upd g.G b f } ∧ Sim W0 { g with G := upd g.G b f } σ n w := by
  have keepG : ∀ b' o v, g.G b' o = some v → upd g.G b f b' o = some v := fun b' o v hv => by
    by_cases hb : b' = b
    · subst hb; rw [hG] at hv; cases hv
    · rw [upd_ne _ _ _ _ hb]; exact hv
  have hle : g.le { g with G := upd g.G b f } := ⟨keepG, fun _ _ h => h, fun _ u h => ⟨u, h, .inl rfl⟩⟩
  have ne_of : ∀ i b', g.blk i = some b' → b' ≠ b := fun i b' hb' e => hfree i (e ▸ hb')
  refine ⟨hle, h.below, fun b' o v hv => ?_, h.free, h.bound, fun id t x hx => ?_, fun id t x hx => ?_, fun id e size k hx => ?_, h.sep, h.fresh⟩
  · by_cases hb : b' = b
    · subst hb; simp only [upd_same] at hv; exact hf o v hv
    · simp only [upd_ne _ _ _ _ hb] at hv; exact h.imm b' o v hv
  · obtain ⟨b', v, h1, h2, h3, h4, h5⟩ := h.box id t x hx
    have hne := ne_of id b' (by simp [Ghost.blk, h1])
    exact ⟨b', v, h1, h2, h3.mono hle, h4, fun o => by simp only [upd_ne _ _ _ _ hne]; exact h5 o⟩
  · obtain ⟨b', v, h1, h2, h3, h4, h5⟩ := h.fbox id t x hx
    have hne := ne_of id b' (by simp [Ghost.blk, h1])
    exact ⟨b', v, h1, h2, h3.mono hle, h4, fun o => by simp only [upd_ne _ _ _ _ hne]; exact h5 o⟩
  · obtain ⟨u, cells, h1, h2, h3, h4, h5⟩ := h.row id e size k hx
    refine ⟨u, cells, h1, h2, h3, h4, fun b' hb' o => ?_⟩
    have hne := ne_of id b' (by simp [Ghost.blk, h1, h2, hb'])
    simp only [upd_ne _ _ _ _ hne]
    exact h5 b' hb' o

/-- A block that nobody owns becomes a box. -/
theorem Sim.addBox (h : Sim W0 g σ n w) {k b : Nat} {t : TypeId} {x : AV} {v : Value} (hk : σ k = .none) (hn : k < n) (hb : w.heap[b]? = some (.cells v.cells t (0, 0))) (hr : Rep g x v)
    (hW : W0.heap.size ≤ b) (hG : ∀ o, g.G b o = none) (hfree : ∀ i, g.blk i ≠ some b) :
    g.le { g with loc := upd g.loc k (some b) } ∧ Sim W0 { g with loc := upd g.loc k (some b) } (upd σ k (.box t x)) n w := by
  obtain ⟨hl, hrw⟩ := h.free k hk
  have hle : g.le { g with loc := upd g.loc k (some b) } := ⟨fun _ _ _ h => h, fun id b' hb' => by
    have : id ≠ k := by rintro rfl; rw [hl] at hb'; cases hb'
    simpa [upd_ne _ _ _ _ this] using hb', fun _ u h => ⟨u, h, .inl rfl⟩⟩
  have hbk : Ghost.blk { g with loc := upd g.loc k (some b) } k = some b := by simp [Ghost.blk, upd]
  have hbo : ∀ i, i ≠ k → Ghost.blk { g with loc := upd g.loc k (some b) } i = g.blk i := fun i hi => by simp [Ghost.blk, upd, hi]
  refine ⟨hle, h.below, h.imm, fun id hid => ?_, fun id hid => ?_, fun id t' x' hx => ?_, fun id t' x' hx => ?_, fun id e size m hx => ?_, fun i j b' hi hj => ?_, fun i b' hi => ?_⟩
  · have hne : id ≠ k := by rintro rfl; simp [upd_same] at hid
    rw [upd_ne _ _ _ _ hne] at hid
    simpa [upd_ne _ _ _ _ hne] using h.free id hid
  · rw [upd_ne _ _ _ _ (by omega)]; exact h.bound id hid
  · by_cases hne : id = k
    · subst hne
      rw [upd_same] at hx
      cases hx
      exact ⟨b, v, by simp [upd_same], hrw, hr.mono hle, hb, hG⟩
    · rw [upd_ne _ _ _ _ hne] at hx
      obtain ⟨b', v', h1, h2, h3, h4, h5⟩ := h.box id t' x' hx
      exact ⟨b', v', by simpa [upd_ne _ _ _ _ hne] using h1, h2, h3.mono hle, h4, h5⟩
  · have hne : id ≠ k := by rintro rfl; simp [upd_same] at hx
    rw [upd_ne _ _ _ _ hne] at hx
    obtain ⟨b', v', h1, h2, h3, h4, h5⟩ := h.fbox id t' x' hx
    exact ⟨b', v', by simpa [upd_ne _ _ _ _ hne] using h1, h2, h3.mono hle, h4, h5⟩
  · have hne : id ≠ k := by rintro rfl; simp [upd_same] at hx
    rw [upd_ne _ _ _ _ hne] at hx
    obtain ⟨u, cells, h1, h2⟩ := h.row id e size m hx
    exact ⟨u, cells, by simpa [upd_ne _ _ _ _ hne] using h1, h2⟩
  · by_cases h1 : i = k <;> by_cases h2 : j = k
    · omega
    · subst h1; rw [hbk] at hi; rw [hbo j h2, ← hi] at hj; exact absurd hj (hfree j)
    · subst h2; rw [hbk] at hj; rw [hbo i h1, ← hj] at hi; exact absurd hi (hfree i)
    · rw [hbo i h1] at hi; rw [hbo j h2] at hj; exact h.sep i j b' hi hj
  · by_cases h1 : i = k
    · subst h1; rw [hbk] at hi; cases hi; exact ⟨hW, (Array.getElem?_eq_some_iff.1 hb).1⟩
    · rw [hbo i h1] at hi; exact h.fresh i b' hi

/-- A new box. -/
theorem Sim.newBox (h : Sim W0 g σ n w) {k : Nat} {t : TypeId} {x : AV} {v : Value} (hk : σ k = .none) (hn : k < n) (hr : Rep g x v) :
    ∃ g', g.le g' ∧ Sim W0 g' (upd σ k (.box t x)) n (w.alloc (.cells v.cells t)) ∧ g'.loc k = some w.heap.size := by
  have h1 := (h.alloc (.cells v.cells t)).addBox (b := w.heap.size) hk hn (heap_alloc_new w _) hr h.below.size h.G_new h.blk_new
  exact ⟨_, h1.1, h1.2, by simp [upd_same]⟩

/-- A row: a nil slice, or a block that nobody owns and that no reading names. -/
theorem Sim.addRow (h : Sim W0 g σ n w) {k : Nat} {e : TypeId} {size m : Nat} {u : Value} {cells : List Value} (hk : σ k = .none) (hn : k < n) (hown : w.ownsRow W0.heap.size e size u m cells) (hlen : slen u = m)
    (hG : ∀ b, u.ownBlock = some b → ∀ o, g.G b o = none) (hfree : ∀ b, u.ownBlock = some b → ∀ i, g.blk i ≠ some b) :
    ∃ g', g.le g' ∧ Sim W0 g' (upd σ k (.row e size m)) n w ∧ g'.row k = some u ∧ (∀ b, u.ownBlock = some b → ∀ o, g'.G b o = cells[o]?) := by
  obtain ⟨hl, hrw⟩ := h.free k hk
  obtain ⟨F, hF, hFo⟩ : ∃ F : Nat → Nat → Option Value, (∀ b, u.ownBlock = some b → F b = fun o => cells[o]?) ∧ (∀ b, u.ownBlock ≠ some b → F b = g.G b) := by
    refine ⟨fun b => if u.ownBlock = some b then fun o => cells[o]? else g.G b, fun b hb => by simp [hb], fun b hb => by simp [hb]⟩
  have hcell : ∀ b, u.ownBlock = some b → ∀ o v, cells[o]? = some v → w.cell? ⟨b, o, none⟩ = some v := fun b hb o v hv => by
    have := hown.cells hb o v hv
    simpa [Addr.add_lit] using this
  let g' : Ghost := { G := F, loc := g.loc, row := upd g.row k (some u) }
  have hle : g.le g' := by
    refine ⟨fun b o v hv => ?_, fun _ _ h => h, fun id u' hu' => ?_⟩
    · have hne : u.ownBlock ≠ some b := fun hb => by rw [hG b hb o] at hv; cases hv
      show F b o = some v
      rw [hFo b hne]; exact hv
    · have hne : id ≠ k := by rintro rfl; rw [hrw] at hu'; cases hu'
      exact ⟨u', by show upd g.row k (some u) id = some u'; rw [upd_ne _ _ _ _ hne]; exact hu', .inl rfl⟩
  have hbk : g'.blk k = u.ownBlock := by simp [Ghost.blk, g', hl, upd]
  have hbo : ∀ i, i ≠ k → g'.blk i = g.blk i := fun i hi => by simp [Ghost.blk, g', upd, hi]
  have ne_of : ∀ i b, g.blk i = some b → u.ownBlock ≠ some b := fun i b hb e => hfree b e i hb
  refine ⟨g', hle, ⟨h.below, fun b o v hv => ?_, fun id hid => ?_, fun id hid => ?_, fun id t' x' hx => ?_, fun id t' x' hx => ?_, fun id e' size' m' hx => ?_, fun i j b' hi hj => ?_, fun i b' hi => ?_⟩, by simp [g', upd_same], fun b hb o => by show F b o = _; rw [hF b hb]⟩
  · by_cases hb : u.ownBlock = some b
    · have hv' : F b o = some v := hv
      rw [hF b hb] at hv'
      exact hcell b hb o v hv'
    · have hv' : F b o = some v := hv
      rw [hFo b hb] at hv'
      exact h.imm b o v hv'
  · have hne : id ≠ k := by rintro rfl; simp [upd_same] at hid
    rw [upd_ne _ _ _ _ hne] at hid
    simpa [g', upd_ne _ _ _ _ hne] using h.free id hid
  · rw [upd_ne _ _ _ _ (by omega)]; exact h.bound id hid
  · have hne : id ≠ k := by rintro rfl; simp [upd_same] at hx
    rw [upd_ne _ _ _ _ hne] at hx
    obtain ⟨b', v', h1, h2, h3, h4, h5⟩ := h.box id t' x' hx
    exact ⟨b', v', h1, by simpa [g', upd_ne _ _ _ _ hne] using h2, h3.mono hle, h4, fun o => by show F b' o = none; rw [hFo b' (ne_of id b' (by simp [Ghost.blk, h1]))]; exact h5 o⟩
  · have hne : id ≠ k := by rintro rfl; simp [upd_same] at hx
    rw [upd_ne _ _ _ _ hne] at hx
    obtain ⟨b', v', h1, h2, h3, h4, h5⟩ := h.fbox id t' x' hx
    exact ⟨b', v', h1, by simpa [g', upd_ne _ _ _ _ hne] using h2, h3.mono hle, h4, fun o => by show F b' o = _; rw [hFo b' (ne_of id b' (by simp [Ghost.blk, h1]))]; exact h5 o⟩
  · by_cases hne : id = k
    · subst hne
      rw [upd_same] at hx
      cases hx
      exact ⟨u, cells, hl, by simp [g', upd_same], hown, hlen, fun b hb o => by show F b o = _; rw [hF b hb]⟩
    · rw [upd_ne _ _ _ _ hne] at hx
      obtain ⟨u', cells', h1, h2, h3, h4, h5⟩ := h.row id e' size' m' hx
      exact ⟨u', cells', h1, by simpa [g', upd_ne _ _ _ _ hne] using h2, h3, h4, fun b hb o => by show F b o = _; rw [hFo b (ne_of id b (by simp [Ghost.blk, h1, h2, hb]))]; exact h5 b hb o⟩
  · by_cases h1 : i = k <;> by_cases h2 : j = k
    · omega
    · subst h1; rw [hbk] at hi; rw [hbo j h2] at hj; exact absurd hj (hfree b' hi j)
    · subst h2; rw [hbk] at hj; rw [hbo i h1] at hi; exact absurd hi (hfree b' hj i)
    · rw [hbo i h1] at hi; rw [hbo j h2] at hj; exact h.sep i j b' hi hj
  · by_cases h1 : i = k
    · subst h1; rw [hbk] at hi; exact hown.lt b' hi
    · rw [hbo i h1] at hi; exact h.fresh i b' hi

/-- A new row, in a new block. -/
theorem Sim.newRow (h : Sim W0 g σ n w) {k : Nat} {e : TypeId} {size m : Nat} {cells : List Value} (hk : σ k = .none) (hn : k < n) (cur : Array Value) (cap : Nat) (hlen : cells.length = m * size) (hmc : m ≤ cap) (hcm : cap ≤ maxLen)
    (hcur : cur.size = cap * size) (htake : cur.toList.take (m * size) = cells) :
    ∃ g', g.le g' ∧ Sim W0 g' (upd σ k (.row e size m)) n (w.alloc (.cells cur e)) ∧ g'.row k = some (.slice (some ⟨w.heap.size, 0, none⟩) m cap) ∧ (∀ o, g'.G w.heap.size o = cells[o]?) := by
  have hown : (w.alloc (.cells cur e)).ownsRow W0.heap.size e size (.slice (some ⟨w.heap.size, 0, none⟩) m cap) m cells :=
    ⟨hlen, .inr ⟨w.heap.size, cap, cur, rfl, h.below.size, heap_alloc_new w _, hmc, hcm, hcur, htake⟩⟩
  obtain ⟨g', h1, h2, h3, h4⟩ := (h.alloc (.cells cur e)).addRow hk hn hown rfl (fun b hb o => by simp [Value.ownBlock] at hb; subst hb; exact h.G_new o) (fun b hb i => by simp [Value.ownBlock] at hb; subst hb; exact h.blk_new i)
  exact ⟨g', h1, h2, h3, h4 _ rfl⟩

/-- A store into a box. -/
theorem Sim.store (h : Sim W0 g σ n w) {id b : Nat} {t : TypeId} {x x' : AV} {v' : Value} (hx : σ id = .box t x) (hb : g.loc id = some b) (hr : Rep g x' v') :
    Sim W0 g (upd σ id (.box t x')) n (w.setRow b v'.cells) := by
  obtain ⟨b0, v, hb0, hrow, hrep, hheap, hG⟩ := h.box id t x hx
  have : b0 = b := by rw [hb] at hb0; injection hb0 with e; exact e.symm
  subst this
  have hblk : g.blk id = some b0 := by simp [Ghost.blk, hb]
  have hW := (h.fresh id b0 hblk).1
  have other : ∀ k, k ≠ b0 → (w.setRow b0 v'.cells).heap[k]? = w.heap[k]? := fun k hk => setRow_other w b0 k _ hk
  have hsz : (w.setRow b0 v'.cells).heap.size = w.heap.size := by simp [World.setRow]
  refine ⟨⟨h.below.os, h.below.tape, h.below.output, by rw [hsz]; exact h.below.size, fun k hk => by rw [other k (by omega)]; exact h.below.block k hk⟩, fun b' o u hu => ?_, fun id' hid => ?_, fun id' hid => ?_, fun id' t' x'' hx' => ?_,
    fun id' t' x'' hx' => ?_, fun id' e size k hx' => ?_, h.sep, fun i b' hi => by rw [hsz]; exact h.fresh i b' hi⟩
  · have hne : b' ≠ b0 := by rintro rfl; rw [hG] at hu; cases hu
    have := h.imm b' o u hu
    unfold World.cell? at this ⊢
    simp only [other b' hne] at this ⊢
    exact this
  · have hne : id' ≠ id := by rintro rfl; simp [upd_same] at hid
    rw [upd_ne _ _ _ _ hne] at hid
    exact h.free id' hid
  · have hne : id' ≠ id := by
      rintro rfl
      have := h.bound id' hid
      rw [hx] at this; cases this
    rw [upd_ne _ _ _ _ hne]; exact h.bound id' hid
  · by_cases hne : id' = id
    · subst hne
      rw [upd_same] at hx'
      cases hx'
      exact ⟨b0, v', hb, hrow, hr, setRow_heap w b0 _ _ _ _ hheap, hG⟩
    · rw [upd_ne _ _ _ _ hne] at hx'
      obtain ⟨b', v1, h1, h2, h3, h4, h5⟩ := h.box id' t' x'' hx'
      have hbn : b' ≠ b0 := fun e => hne (h.sep id' id b' (by simp [Ghost.blk, h1]) (by rw [hblk, e]))
      exact ⟨b', v1, h1, h2, h3, by rw [other b' hbn]; exact h4, h5⟩
  · have hne : id' ≠ id := by rintro rfl; simp [upd_same] at hx'
    rw [upd_ne _ _ _ _ hne] at hx'
    obtain ⟨b', v1, h1, h2, h3, h4, h5⟩ := h.fbox id' t' x'' hx'
    have hbn : b' ≠ b0 := fun e => hne (h.sep id' id b' (by simp [Ghost.blk, h1]) (by rw [hblk, e]))
    exact ⟨b', v1, h1, h2, h3, by rw [other b' hbn]; exact h4, h5⟩
  · have hne : id' ≠ id := by rintro rfl; simp [upd_same] at hx'
    rw [upd_ne _ _ _ _ hne] at hx'
    obtain ⟨u, cells, h1, h2, h3, h4, h5⟩ := h.row id' e size k hx'
    have hbn : u.ownBlock ≠ some b0 := fun e => hne (h.sep id' id b0 (by simp [Ghost.blk, h1, h2, e]) hblk)
    refine ⟨u, cells, h1, h2, ⟨h3.1, ?_⟩, h4, h5⟩
    rcases h3.2 with hz | ⟨g0, cap, cur, rfl, r1, r2, r3⟩
    · exact .inl hz
    · refine .inr ⟨g0, cap, cur, rfl, r1, ?_, r3⟩
      rw [other g0 (fun e => hbn (by simp [Value.ownBlock, e]))]
      exact r2

/-- A box that is written no more: its cells may be read by whoever holds a slice of them. -/
theorem Sim.freeze (h : Sim W0 g σ n w) {id b : Nat} {t : TypeId} {x : AV} (hx : σ id = .box t x) (hb : g.loc id = some b) :
    ∃ g', g.le g' ∧ Sim W0 g' (upd σ id (.fbox t x)) n w ∧ (∃ v, Rep g' x v ∧ ∀ (o : Nat), g'.G b o = v.cells[o]?) := by
  obtain ⟨b0, v, hb0, hrow, hrep, hheap, hG⟩ := h.box id t x hx
  have : b0 = b := by rw [hb] at hb0; injection hb0 with e; exact e.symm
  subst this
  have hblk : g.blk id = some b0 := by simp [Ghost.blk, hb]
  let g' : Ghost := { g with G := upd g.G b0 fun o => v.cells[o]? }
  have hle : g.le g' := ⟨fun b' o u hu => by
    have hne : b' ≠ b0 := by rintro rfl; rw [hG] at hu; cases hu
    show upd g.G b0 _ b' o = some u
    rw [upd_ne _ _ _ _ hne]; exact hu, fun _ _ h => h, fun _ u h => ⟨u, h, .inl rfl⟩⟩
  have hblk' : ∀ i, g'.blk i = g.blk i := fun i => rfl
  refine ⟨g', hle, ⟨h.below, fun b' o u hu => ?_, fun id' hid => ?_, fun id' hid => ?_, fun id' t' x'' hx' => ?_, fun id' t' x'' hx' => ?_, fun id' e size k hx' => ?_, h.sep, h.fresh⟩, v, hrep.mono hle, fun o => by simp [g', upd_same]⟩
  · by_cases hne : b' = b0
    · subst hne
      have hu' : upd g.G b' (fun o => v.cells[o]?) b' o = some u := hu
      rw [upd_same] at hu'
      rw [cell_of_row w b' o _ _ _ hheap]; exact hu'
    · have hu' : upd g.G b0 (fun o => v.cells[o]?) b' o = some u := hu
      rw [upd_ne _ _ _ _ hne] at hu'
      exact h.imm b' o u hu'
  · have hne : id' ≠ id := by rintro rfl; simp [upd_same] at hid
    rw [upd_ne _ _ _ _ hne] at hid
    exact h.free id' hid
  · have hne : id' ≠ id := by
      rintro rfl
      have := h.bound id' hid
      rw [hx] at this; cases this
    rw [upd_ne _ _ _ _ hne]; exact h.bound id' hid
  · have hne : id' ≠ id := by rintro rfl; simp [upd_same] at hx'
    rw [upd_ne _ _ _ _ hne] at hx'
    obtain ⟨b', v1, h1, h2, h3, h4, h5⟩ := h.box id' t' x'' hx'
    have hbn : b' ≠ b0 := fun e => hne (h.sep id' id b' (by simp [Ghost.blk, h1]) (by rw [hblk, e]))
    exact ⟨b', v1, h1, h2, h3.mono hle, h4, fun o => by show upd g.G b0 _ b' o = none; rw [upd_ne _ _ _ _ hbn]; exact h5 o⟩
  · by_cases hne : id' = id
    · subst hne
      rw [upd_same] at hx'
      cases hx'
      exact ⟨b0, v, hb, hrow, hrep.mono hle, hheap, fun o => by simp [g', upd_same]⟩
    · rw [upd_ne _ _ _ _ hne] at hx'
      obtain ⟨b', v1, h1, h2, h3, h4, h5⟩ := h.fbox id' t' x'' hx'
      have hbn : b' ≠ b0 := fun e => hne (h.sep id' id b' (by simp [Ghost.blk, h1]) (by rw [hblk, e]))
      exact ⟨b', v1, h1, h2, h3.mono hle, h4, fun o => by show upd g.G b0 _ b' o = _; rw [upd_ne _ _ _ _ hbn]; exact h5 o⟩
  · have hne : id' ≠ id := by rintro rfl; simp [upd_same] at hx'
    rw [upd_ne _ _ _ _ hne] at hx'
    obtain ⟨u, cells, h1, h2, h3, h4, h5⟩ := h.row id' e size k hx'
    refine ⟨u, cells, h1, h2, h3, h4, fun b hb' o => ?_⟩
    have hbn : b ≠ b0 := fun e => hne (h.sep id' id b (by simp [Ghost.blk, h1, h2, hb']) (by rw [hblk, e]))
    show upd g.G b0 _ b o = _
    rw [upd_ne _ _ _ _ hbn]
    exact h5 b hb' o

/-- A row has grown, in place or into a new block: what the law of append leaves. -/
theorem Sim.grow (h : Sim W0 g σ n w) {id : Nat} {e : TypeId} {size k m : Nat} (hx : σ id = .row e size k) {u u' : Value} {cells news : List Value} {w' : World}
    (hu : g.row id = some u) (hcells : ∀ b, u.ownBlock = some b → ∀ (o : Nat), g.G b o = cells[o]?) (hown' : w'.ownsRow W0.heap.size e size u' (k + m) (cells ++ news)) (hlen : slen u = k) (hlen' : slen u' = k + m)
    (h1 : w'.os = w.os) (h2 : w'.tape = w.tape) (h3 : w'.output = w.output) (hsz : w.heap.size ≤ w'.heap.size)
    (hw : (u' = u ∧ m = 0 ∧ w'.heap = w.heap) ∨ (0 < m ∧ u'.ownBlock = u.ownBlock ∧ ∀ j, u.ownBlock ≠ some j → j < w.heap.size → w'.heap[j]? = w.heap[j]?) ∨
      (0 < m ∧ u'.ownBlock = some w.heap.size ∧ ∀ j, j < w.heap.size → w'.heap[j]? = w.heap[j]?)) :
    ∃ g', g.le g' ∧ Sim W0 g' (upd σ id (.row e size (k + m))) n w' ∧ g'.row id = some u' ∧ (∀ b, u'.ownBlock = some b → ∀ (o : Nat), g'.G b o = (cells ++ news)[o]?) := by
  obtain ⟨u0, cells0, hl, hu0, hown, hlen0, hG⟩ := h.row id e size k hx
  have : u0 = u := by rw [hu] at hu0; injection hu0 with e; exact e.symm
  subst this
  have hblk : g.blk id = u0.ownBlock := by simp [Ghost.blk, hl, hu]
  have same_u : u'.ownBlock = u0.ownBlock ∨ u'.ownBlock = some w.heap.size := by
    rcases hw with ⟨rfl, _⟩ | ⟨_, h, _⟩ | ⟨_, h, _⟩
    · exact .inl rfl
    · exact .inl h
    · exact .inr h
  have hheap : ∀ j, u0.ownBlock ≠ some j → j < w.heap.size → w'.heap[j]? = w.heap[j]? := by
    intro j hj hlt
    rcases hw with ⟨_, _, h⟩ | ⟨_, _, h⟩ | ⟨_, _, h⟩
    · rw [h]
    · exact h j hj hlt
    · exact h j hlt
  have hcur : ∀ b, u0.ownBlock = some b → ∀ o v, cells[o]? = some v → w'.cell? ⟨b, o, none⟩ = some v := by
    intro b hb o v hv
    rcases hw with ⟨rfl, _, hh⟩ | ⟨_, he, _⟩ | ⟨_, _, hh⟩
    · have := h.imm b o v (by rw [hcells b hb]; exact hv)
      simpa [World.cell?, hh] using this
    · have := hown'.cells (he.trans hb) o v (by rw [List.getElem?_append_left (List.getElem?_eq_some_iff.1 hv).1]; exact hv)
      simpa [Addr.add_lit] using this
    · have hblt : b < w.heap.size := (h.fresh id b (hblk.trans hb)).2
      have := h.imm b o v (by rw [hcells b hb]; exact hv)
      unfold World.cell? at this ⊢
      simp only [hh b hblt] at this ⊢
      exact this
  let F : Nat → Nat → Option Value := fun b => if u'.ownBlock = some b then fun o => (cells ++ news)[o]? else g.G b
  have hF : ∀ b, u'.ownBlock = some b → F b = fun o => (cells ++ news)[o]? := fun b hb => by simp [F, hb]
  have hFo : ∀ b, u'.ownBlock ≠ some b → F b = g.G b := fun b hb => by simp [F, hb]
  let g' : Ghost := { G := F, loc := g.loc, row := upd g.row id (some u') }
  have hle : g.le g' := by
    refine ⟨fun b o v hv => ?_, fun _ _ h => h, fun i v hv => ?_⟩
    · show F b o = some v
      by_cases hb : u'.ownBlock = some b
      · rw [hF b hb]
        rcases same_u with he | he
        · have hv' : cells[o]? = some v := by rw [← hcells b (he.symm.trans hb)]; exact hv
          show (cells ++ news)[o]? = some v
          rw [List.getElem?_append_left (List.getElem?_eq_some_iff.1 hv').1]; exact hv'
        · have : b = w.heap.size := by rw [hb] at he; injection he
          subst this
          rw [h.G_new] at hv; cases hv
      · rw [hFo b hb]; exact hv
    · by_cases hi : i = id
      · subst hi
        have : v = u0 := by rw [hu] at hv; injection hv with e; exact e.symm
        subst this
        refine ⟨u', by show upd g.row i (some u') i = _; rw [upd_same], ?_⟩
        rcases hw with ⟨rfl, _⟩ | ⟨hm, _⟩ | ⟨hm, _⟩
        · exact .inl rfl
        · exact .inr (by omega)
        · exact .inr (by omega)
      · exact ⟨v, by show upd g.row id (some u') i = _; rw [upd_ne _ _ _ _ hi]; exact hv, .inl rfl⟩
  have hbk : g'.blk id = u'.ownBlock := by simp [Ghost.blk, g', hl, upd]
  have hbo : ∀ i, i ≠ id → g'.blk i = g.blk i := fun i hi => by simp [Ghost.blk, g', upd, hi]
  have ne_u : ∀ i, i ≠ id → ∀ b, g.blk i = some b → u0.ownBlock ≠ some b ∧ u'.ownBlock ≠ some b ∧ b < w.heap.size := by
    intro i hi b hb
    have hlt := (h.fresh i b hb).2
    have h0 : u0.ownBlock ≠ some b := fun e => hi (h.sep i id b hb (hblk.trans e))
    refine ⟨h0, fun e => ?_, hlt⟩
    rcases same_u with he | he
    · exact h0 (he ▸ e)
    · rw [e] at he; injection he with he; omega
  have hW : ∀ b, u0.ownBlock = some b → W0.heap.size ≤ b := fun b hb => (hown.lt b hb).1
  refine ⟨g', hle, ⟨⟨h1.trans h.below.os, h2.trans h.below.tape, h3.trans h.below.output, Nat.le_trans h.below.size hsz, fun j hj => ?_⟩, fun b o v hv => ?_, fun i hi => ?_, fun i hi => ?_, fun i t x hi => ?_, fun i t x hi => ?_, fun i e' size' k' hi => ?_, fun i j b hi hj => ?_, fun i b hi => ?_⟩,
    by simp [g', upd_same], fun b hb o => by show F b o = _; rw [hF b hb]⟩
  · rw [hheap j (fun e => by have := hW j e; omega) (Nat.lt_of_lt_of_le hj h.below.size)]
    exact h.below.block j hj
  · have hv' : F b o = some v := hv
    by_cases hb : u'.ownBlock = some b
    · rw [hF b hb] at hv'
      have := hown'.cells hb o v hv'
      simpa [Addr.add_lit] using this
    · rw [hFo b hb] at hv'
      by_cases hb0 : u0.ownBlock = some b
      · exact hcur b hb0 o v (by rw [← hcells b hb0]; exact hv')
      · have := h.imm b o v hv'
        unfold World.cell? at this ⊢
        simp only [hheap b hb0 (h.G_lt hv')] at this ⊢
        exact this
  · have hne : i ≠ id := by rintro rfl; simp [upd_same] at hi
    rw [upd_ne _ _ _ _ hne] at hi
    simpa [g', upd_ne _ _ _ _ hne] using h.free i hi
  · have hne : i ≠ id := by
      rintro rfl
      have := h.bound i hi
      rw [hx] at this; cases this
    rw [upd_ne _ _ _ _ hne]; exact h.bound i hi
  · have hne : i ≠ id := by rintro rfl; simp [upd_same] at hi
    rw [upd_ne _ _ _ _ hne] at hi
    obtain ⟨b', v1, k1, k2, k3, k4, k5⟩ := h.box i t x hi
    obtain ⟨n1, n2, n3⟩ := ne_u i hne b' (by simp [Ghost.blk, k1])
    exact ⟨b', v1, k1, by simpa [g', upd_ne _ _ _ _ hne] using k2, k3.mono hle, by rw [hheap b' n1 n3]; exact k4, fun o => by show F b' o = none; rw [hFo b' n2]; exact k5 o⟩
  · have hne : i ≠ id := by rintro rfl; simp [upd_same] at hi
    rw [upd_ne _ _ _ _ hne] at hi
    obtain ⟨b', v1, k1, k2, k3, k4, k5⟩ := h.fbox i t x hi
    obtain ⟨n1, n2, n3⟩ := ne_u i hne b' (by simp [Ghost.blk, k1])
    exact ⟨b', v1, k1, by simpa [g', upd_ne _ _ _ _ hne] using k2, k3.mono hle, by rw [hheap b' n1 n3]; exact k4, fun o => by show F b' o = _; rw [hFo b' n2]; exact k5 o⟩
  · by_cases hne : i = id
    · subst hne
      rw [upd_same] at hi
      cases hi
      exact ⟨u', cells ++ news, hl, by simp [g', upd_same], hown', hlen', fun b hb o => by show F b o = _; rw [hF b hb]⟩
    · rw [upd_ne _ _ _ _ hne] at hi
      obtain ⟨u1, c1, k1, k2, k3, k4, k5⟩ := h.row i e' size' k' hi
      have hb1 : ∀ b, u1.ownBlock = some b → u0.ownBlock ≠ some b ∧ u'.ownBlock ≠ some b ∧ b < w.heap.size := fun b hb => ne_u i hne b (by simp [Ghost.blk, k1, k2, hb])
      refine ⟨u1, c1, k1, by simpa [g', upd_ne _ _ _ _ hne] using k2, ⟨k3.1, ?_⟩, k4, fun b hb o => ?_⟩
      · rcases k3.2 with hz | ⟨g0, cap, cur, rfl, r1, r2, r3⟩
        · exact .inl hz
        · refine .inr ⟨g0, cap, cur, rfl, r1, ?_, r3⟩
          obtain ⟨n1, n2, n3⟩ := hb1 g0 rfl
          rw [hheap g0 n1 n3]; exact r2
      · show F b o = _
        rw [hFo b (hb1 b hb).2.1]; exact k5 b hb o
  · by_cases hi' : i = id <;> by_cases hj' : j = id
    · omega
    · subst hi'; rw [hbk] at hi; rw [hbo j hj'] at hj; exact absurd hi (ne_u j hj' b hj).2.1
    · subst hj'; rw [hbk] at hj; rw [hbo i hi'] at hi; exact absurd hj (ne_u i hi' b hi).2.1
    · rw [hbo i hi'] at hi; rw [hbo j hj'] at hj; exact h.sep i j b hi hj
  · by_cases hi' : i = id
    · subst hi'; rw [hbk] at hi; exact hown'.lt b hi
    · rw [hbo i hi'] at hi
      exact ⟨(h.fresh i b hi).1, Nat.lt_of_lt_of_le (h.fresh i b hi).2 hsz⟩
end
end Go.Ab
