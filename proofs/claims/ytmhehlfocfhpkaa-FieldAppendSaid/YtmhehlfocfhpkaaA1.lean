/- The values of a small logic over trees: what a Go value reads as (Rep), the entities of a call (boxes, rows), and the relation Sim between these and a world. Nothing here names a program. -/
import Derived.Orders
import Derived.Below
import Derived.Laws.AppendOwn
import Derived.Laws.CopyRow
import Derived.Laws.Cells
import Derived.Laws.Rows
namespace Go.Ab
open Go.RowKit

inductive AV where
  | any
  | lit (v : Value)
  | nils
  | slice (own : Option Nat) (xs : List AV)
  | agg (xs : List AV)
  | ptr (id : Nat) (path : List Nat) (off : Nat)
  | view (x : AV)
  | fn (f : FuncId) (xs : List AV)
  | tup (xs : List AV)

instance : Inhabited AV := ⟨.any⟩

inductive Ent where
  | none
  | box (t : TypeId) (x : AV)
  | fbox (t : TypeId) (x : AV)
  | row (e : TypeId) (size n : Nat)

instance : Inhabited Ent := ⟨.none⟩

mutual
def AV.sz : AV → Nat
  | .agg xs => AV.szl xs
  | _ => 1
def AV.szl : List AV → Nat
  | [] => 0
  | x :: r => AV.sz x + AV.szl r
end

theorem AV.szl_append (xs ys : List AV) : AV.szl (xs ++ ys) = AV.szl xs + AV.szl ys := by
  induction xs with
  | nil => simp [AV.szl]
  | cons x r ih => simp [AV.szl, ih, Nat.add_assoc]

theorem AV.szl_uniform (xs : List AV) (k : Nat) (h : ∀ x ∈ xs, x.sz = k) : AV.szl xs = xs.length * k := by
  induction xs with
  | nil => simp [AV.szl]
  | cons x r ih =>
    simp only [AV.szl, List.length_cons]
    rw [ih fun y hy => h y (List.mem_cons_of_mem _ hy), h x (List.mem_cons_self ..), Nat.add_mul]
    omega

def flat (vs : List Value) : List Value := vs.flatMap fun v => v.cells.toList

theorem flat_nil : flat [] = [] := rfl
theorem flat_cons (v : Value) (vs : List Value) : flat (v :: vs) = v.cells.toList ++ flat vs := rfl
theorem flat_append (vs us : List Value) : flat (vs ++ us) = flat vs ++ flat us := by simp [flat]

theorem flat_length (vs : List Value) (k : Nat) (h : ∀ v ∈ vs, v.cells.size = k) : (flat vs).length = vs.length * k := by
  induction vs with
  | nil => simp [flat]
  | cons v r ih =>
    rw [flat_cons, List.length_append, ih fun u hu => h u (List.mem_cons_of_mem _ hu), List.length_cons, Nat.add_mul, Array.length_toList, h v (List.mem_cons_self ..)]
    omega

/-- The cells of element i of a row of values of one size. -/
theorem flat_at (vs : List Value) (k : Nat) (h : ∀ v ∈ vs, v.cells.size = k) (i : Nat) (v : Value) (hi : vs[i]? = some v) :
    ∀ (j : Nat) (u : Value), v.cells.toList[j]? = some u → (flat vs)[i * k + j]? = some u := by
  induction vs generalizing i with
  | nil => simp at hi
  | cons x r ih =>
    intro j u hu
    rw [flat_cons]
    have hx : x.cells.toList.length = k := by simpa using h x (List.mem_cons_self ..)
    cases i with
    | zero =>
      simp at hi
      subst hi
      have hj : j < x.cells.toList.length := by
        rcases Nat.lt_or_ge j x.cells.toList.length with h' | h'
        · exact h'
        · rw [List.getElem?_eq_none h'] at hu; cases hu
      rw [Nat.zero_mul, Nat.zero_add, List.getElem?_append_left hj]
      exact hu
    | succ i =>
      have := ih (fun u hu => h u (List.mem_cons_of_mem _ hu)) i (by simpa using hi) j u hu
      rw [Nat.add_mul, List.getElem?_append_right (by omega)]
      rw [← this]
      congr 1
      omega

def slen : Value → Nat
  | .slice _ n _ => n
  | _ => 0

structure Ghost where
  G : Nat → Nat → Option Value
  loc : Nat → Option Nat
  row : Nat → Option Value

def Ghost.blk (g : Ghost) (id : Nat) : Option Nat :=
  match g.loc id with
  | some b => some b
  | none => (g.row id).bind Value.ownBlock

inductive Rep (g : Ghost) : AV → Value → Prop where
  | any (v : Value) (h : v.oneCell' = true) : Rep g .any v
  | lit (v : Value) (h : v.oneCell' = true) : Rep g (.lit v) v
  | nils : Rep g .nils (.slice none 0 0)
  | slice (own : Option Nat) (xs : List AV) (vs : List Value) (A : Option Addr) (c size : Nat) (hl : vs.length = xs.length) (hc : xs.length ≤ c) (hm : c ≤ maxLen)
      (h : ∀ (i : Nat) (x : AV) (v : Value), xs[i]? = some x → vs[i]? = some v → Rep g x v) (hs : ∀ v ∈ vs, v.cells.size = size)
      (hcell : xs.length = 0 ∨ ∃ b o, A = some ⟨b, o, none⟩ ∧ ∀ (j : Nat) (u : Value), (flat vs)[j]? = some u → g.G b (o + j) = some u)
      (hown : ∀ id, own = some id → ∃ u, g.row id = some u ∧ xs.length ≤ slen u ∧ (xs.length = slen u → Value.slice A xs.length c = u)) :
      Rep g (.slice own xs) (.slice A xs.length c)
  | agg (xs : List AV) (vs : List Value) (hl : vs.length = xs.length) (h : ∀ (i : Nat) (x : AV) (v : Value), xs[i]? = some x → vs[i]? = some v → Rep g x v) : Rep g (.agg xs) (.agg (flat vs).toArray)
  | ptr (id : Nat) (path : List Nat) (off b : Nat) (h : g.loc id = some b) : Rep g (.ptr id path off) (.pointer (some ⟨b, off, none⟩))
  | view (x : AV) (v : Value) (b o : Nat) (h : Rep g x v) (hc : ∀ (j : Nat) (u : Value), v.cells.toList[j]? = some u → g.G b (o + j) = some u) : Rep g (.view x) (.pointer (some ⟨b, o, none⟩))
  | fn (f : FuncId) (xs : List AV) (vs : List Value) (hl : vs.length = xs.length) (h : ∀ (i : Nat) (x : AV) (v : Value), xs[i]? = some x → vs[i]? = some v → Rep g x v) : Rep g (.fn f xs) (.func (.func f) #[] vs.toArray)
  | tup (xs : List AV) (vs : List Value) (hl : vs.length = xs.length) (h : ∀ (i : Nat) (x : AV) (v : Value), xs[i]? = some x → vs[i]? = some v → Rep g x v) : Rep g (.tup xs) (.tuple vs.toArray)

structure Ghost.le (g g' : Ghost) : Prop where
  G : ∀ b o v, g.G b o = some v → g'.G b o = some v
  loc : ∀ id b, g.loc id = some b → g'.loc id = some b
  row : ∀ id u, g.row id = some u → ∃ u', g'.row id = some u' ∧ (u' = u ∨ slen u < slen u')

theorem Ghost.le_refl (g : Ghost) : g.le g := ⟨fun _ _ _ h => h, fun _ _ h => h, fun _ u h => ⟨u, h, .inl rfl⟩⟩

theorem Ghost.le.trans {g g' g'' : Ghost} (h : g.le g') (k : g'.le g'') : g.le g'' := by
  refine ⟨fun b o v hv => k.G _ _ _ (h.G _ _ _ hv), fun id b hb => k.loc _ _ (h.loc _ _ hb), fun id u hu => ?_⟩
  obtain ⟨u', h1, h2⟩ := h.row id u hu
  obtain ⟨u'', k1, k2⟩ := k.row id u' h1
  refine ⟨u'', k1, ?_⟩
  rcases h2 with rfl | h2 <;> rcases k2 with rfl | k2
  · exact .inl rfl
  · exact .inr k2
  · exact .inr h2
  · exact .inr (by omega)

theorem Rep.mono {g g' : Ghost} (hg : g.le g') {x : AV} {v : Value} (h : Rep g x v) : Rep g' x v := by
  induction h with
  | any v h => exact .any v h
  | lit v h => exact .lit v h
  | nils => exact .nils
  | slice own xs vs A c size hl hc hm _ hs hcell hown ih =>
    refine .slice own xs vs A c size hl hc hm ih hs (hcell.imp id fun ⟨b, o, hA, hG⟩ => ⟨b, o, hA, fun j u hu => hg.G _ _ _ (hG j u hu)⟩) (fun id hid => ?_)
    · obtain ⟨u, h1, h2, h3⟩ := hown id hid
      obtain ⟨u', k1, k2⟩ := hg.row id u h1
      refine ⟨u', k1, ?_, fun he => ?_⟩
      · rcases k2 with rfl | k2 <;> omega
      · rcases k2 with rfl | k2
        · exact h3 he
        · omega
  | agg xs vs hl _ ih => exact .agg xs vs hl ih
  | ptr id path off b h => exact .ptr id path off b (hg.loc _ _ h)
  | view x v b o _ hc ih => exact .view x v b o ih fun j u hu => hg.G _ _ _ (hc j u hu)
  | fn f xs vs hl _ ih => exact .fn f xs vs hl ih
  | tup xs vs hl _ ih => exact .tup xs vs hl ih

theorem flat_size_of (xs : List AV) (vs : List Value) (hl : vs.length = xs.length) (h : ∀ (i : Nat) (x : AV) (v : Value), xs[i]? = some x → vs[i]? = some v → v.cells.size = x.sz) : (flat vs).length = AV.szl xs := by
  induction xs generalizing vs with
  | nil =>
    cases vs with
    | nil => rfl
    | cons _ _ => simp at hl
  | cons x r ih =>
    cases vs with
    | nil => simp at hl
    | cons v vs =>
      rw [flat_cons, List.length_append, AV.szl, ih vs (by simpa using hl) (fun i x' v' h1 h2 => h (i + 1) x' v' (by simpa using h1) (by simpa using h2)), Array.length_toList,
        h 0 x v (by simp) (by simp)]

theorem oneCell_size {v : Value} (h : v.oneCell' = true) : v.cells.size = 1 := by cases v <;> simp [Value.oneCell', Value.cells] at *
theorem oneCell_cells {v : Value} (h : v.oneCell' = true) : v.cells = #[v] := by cases v <;> simp [Value.oneCell', Value.cells] at *

theorem Rep.size {g : Ghost} {x : AV} {v : Value} (h : Rep g x v) : v.cells.size = x.sz := by
  induction h with
  | any v h => simpa [AV.sz] using oneCell_size h
  | lit v h => simpa [AV.sz] using oneCell_size h
  | nils => simp [AV.sz, Value.cells]
  | slice => simp [AV.sz, Value.cells]
  | agg xs vs hl _ ih => simpa [AV.sz, Value.cells] using flat_size_of xs vs hl ih
  | ptr => simp [AV.sz, Value.cells]
  | view => simp [AV.sz, Value.cells]
  | fn => simp [AV.sz, Value.cells]
  | tup => simp [AV.sz, Value.cells]

def AV.isAgg : AV → Bool
  | .agg _ => true
  | _ => false

/-- Not a struct, not an array, not a tuple: one cell. -/
def AV.one : AV → Bool
  | .agg _ | .tup _ => false
  | _ => true

theorem Rep.oneCell {g : Ghost} {x : AV} {v : Value} (h : Rep g x v) (hx : x.one = true) : v.oneCell' = true := by
  cases h <;> simp_all [AV.one, Value.oneCell']

theorem Rep.cells_one {g : Ghost} {x : AV} {v : Value} (h : Rep g x v) (hx : x.one = true) : v.cells = #[v] := oneCell_cells (h.oneCell hx)

/-- No tuple anywhere where a cell is wanted: every cell is one cell. -/
inductive AV.Cellular : AV → Prop where
  | one (x : AV) (h : x.one = true) : AV.Cellular x
  | agg (xs : List AV) (h : ∀ x ∈ xs, AV.Cellular x) : AV.Cellular (.agg xs)

theorem mem_flat {vs : List Value} {u : Value} : u ∈ flat vs ↔ ∃ v ∈ vs, u ∈ v.cells.toList := by simp [flat]

theorem Rep.cellular {g : Ghost} {x : AV} {v : Value} (h : Rep g x v) (hx : x.Cellular) : ∀ u ∈ v.cells.toList, u.oneCell' = true := by
  induction hx generalizing v with
  | one x hx => intro u hu; rw [h.cells_one hx] at hu; simp at hu; subst hu; exact h.oneCell hx
  | agg xs _ ih =>
    cases h with
    | agg _ vs hl hr =>
      intro u hu
      simp only [Value.cells] at hu
      obtain ⟨v, hv, hu⟩ := mem_flat.1 hu
      obtain ⟨i, hi⟩ := List.getElem?_of_mem hv
      have hlt : i < xs.length := by rw [← hl]; exact (List.getElem?_eq_some_iff.1 hi).1
      exact ih xs[i] (List.getElem_mem hlt) (hr i xs[i] v (List.getElem?_eq_getElem hlt) hi) u hu

/-! ### The relation to a world -/

structure Sim (W0 : World) (g : Ghost) (σ : Nat → Ent) (n : Nat) (w : World) : Prop where
  below : Below W0.heap.size W0 w
  imm : ∀ b o v, g.G b o = some v → w.cell? ⟨b, o, none⟩ = some v
  free : ∀ id, σ id = .none → g.loc id = none ∧ g.row id = none
  bound : ∀ id, n ≤ id → σ id = .none
  box : ∀ id t x, σ id = .box t x → ∃ b v, g.loc id = some b ∧ g.row id = none ∧ Rep g x v ∧ w.heap[b]? = some (.cells v.cells t (0, 0)) ∧ ∀ o, g.G b o = none
  fbox : ∀ id t x, σ id = .fbox t x → ∃ b v, g.loc id = some b ∧ g.row id = none ∧ Rep g x v ∧ w.heap[b]? = some (.cells v.cells t (0, 0)) ∧ ∀ (o : Nat), g.G b o = v.cells[o]?
  row : ∀ id e size k, σ id = .row e size k → ∃ u cells, g.loc id = none ∧ g.row id = some u ∧ w.ownsRow W0.heap.size e size u k cells ∧ slen u = k ∧
    ∀ b, u.ownBlock = some b → ∀ (o : Nat), g.G b o = cells[o]?
  sep : ∀ i j b, g.blk i = some b → g.blk j = some b → i = j
  fresh : ∀ i b, g.blk i = some b → W0.heap.size ≤ b ∧ b < w.heap.size

def upd {α : Type} (f : Nat → α) (k : Nat) (v : α) : Nat → α := fun i => if i = k then v else f i
theorem upd_same {α : Type} (f : Nat → α) (k : Nat) (v : α) : upd f k v k = v := by simp [upd]
theorem upd_ne {α : Type} (f : Nat → α) (k : Nat) (v : α) (i : Nat) (h : i ≠ k) : upd f k v i = f i := by simp [upd, h]
theorem upd_upd {α : Type} (f : Nat → α) (k : Nat) (v u : α) : upd (upd f k v) k u = upd f k u := by
  funext i; unfold upd; split <;> rfl
theorem upd_comm {α : Type} (f : Nat → α) (k j : Nat) (v u : α) (h : k ≠ j) : upd (upd f k v) j u = upd (upd f j u) k v := by
  funext i; unfold upd
  by_cases h1 : i = j
  · by_cases h2 : i = k
    · omega
    · simp [h1]; omega
  · simp [h1]

section
variable {W0 : World} {g : Ghost} {σ : Nat → Ent} {n : Nat} {w : World}

/-- A world with the same heap and streams. -/
theorem Sim.same_heap (h : Sim W0 g σ n w) {w' : World} (hh : w'.heap = w.heap) (h1 : w'.os = w.os) (h2 : w'.tape = w.tape) (h3 : w'.output = w.output) : Sim W0 g σ n w' := by
  have hc : ∀ a, w'.cell? a = w.cell? a := fun a => by simp [World.cell?, hh]
  refine ⟨⟨by rw [h1]; exact h.below.os, by rw [h2]; exact h.below.tape, by rw [h3]; exact h.below.output, by rw [hh]; exact h.below.size, by rw [hh]; exact h.below.block⟩,
    fun b o v hv => by rw [hc]; exact h.imm b o v hv, h.free, h.bound, fun id t x hx => ?_, fun id t x hx => ?_, fun id e size k hx => ?_, h.sep, fun i b hb => by rw [hh]; exact h.fresh i b hb⟩
  · obtain ⟨b, v, h1, h2, h3, h4, h5⟩ := h.box id t x hx
    exact ⟨b, v, h1, h2, h3, by rw [hh]; exact h4, h5⟩
  · obtain ⟨b, v, h1, h2, h3, h4, h5⟩ := h.fbox id t x hx
    exact ⟨b, v, h1, h2, h3, by rw [hh]; exact h4, h5⟩
  · obtain ⟨u, cells, h1, h2, h3, h4⟩ := h.row id e size k hx
    refine ⟨u, cells, h1, h2, ?_, h4⟩
    unfold World.ownsRow at h3 ⊢
    rw [hh]; exact h3

theorem Sim.drew (h : Sim W0 g σ n w) : Sim W0 g σ n { w with drawn := w.drawn + 1 } := h.same_heap rfl rfl rfl rfl

theorem Sim.more (h : Sim W0 g σ n w) {n' : Nat} (hn : n ≤ n') : Sim W0 g σ n' w := { h with bound := fun id hid => h.bound id (Nat.le_trans hn hid) }

/-- The size of a block that an entity holds. -/
theorem Sim.lt (h : Sim W0 g σ n w) {i b : Nat} (hb : g.blk i = some b) : b < w.heap.size := (h.fresh i b hb).2
end
end Go.Ab
