/- The values of a small logic over trees: what a Go value reads as (Rep), the entities of a call (boxes, rows), and the relation Sim between these and a world. Nothing here names a program. -/
import Derived.Orders
import Derived.Below
import Derived.Laws.AppendOwn
import Derived.Laws.CopyRow
import Derived.Laws.Cells
import Derived.Laws.Rows
namespace Go.Ab
open Go.RowKit

inductive AV where
  | any
  | lit (v : Value)
  | nils
  | slice (own : Option Nat) (xs : List AV)
  | agg (xs : List AV)
  | ptr (id : Nat) (path : List Nat) (off : Nat)
  | view (x : AV)
  | fn (f : FuncId) (xs : List AV)
  | tup (xs : List AV)
  | clip (xs : List AV)
  | ms (id ver size lo len : Nat)
  | mp (id ver : Nat) (path : List Nat) (off : Nat)
  | bs (id : Nat) (path : List Nat) (lo off len : Nat)
  | iface (t : TypeId) (x : AV)

instance : Inhabited AV := ⟨.any⟩

inductive Ent where
  | none
  | box (t : TypeId) (x : AV)
  | fbox (t : TypeId) (x : AV)
  | row (e : TypeId) (size n : Nat)
  | mrow (ver : Nat) (e : TypeId) (size : Nat) (xs : List AV)
  | glob (h : Nat) (x : AV)

instance : Inhabited Ent := ⟨.none⟩

mutual
def AV.sz : AV → Nat
  | .agg xs => AV.szl xs
  | _ => 1
def AV.szl : List AV → Nat
  | [] => 0
  | x :: r => AV.sz x + AV.szl r
end

theorem AV.szl_append (xs ys : List AV) : AV.szl (xs ++ ys) = AV.szl xs + AV.szl ys := by
  induction xs with
  | nil => simp [AV.szl]
  | cons x r ih => simp [AV.szl, ih, Nat.add_assoc]

theorem AV.szl_uniform (xs : List AV) (k : Nat) (h : ∀ x ∈ xs, x.sz = k) : AV.szl xs = xs.length * k := by
  induction xs with
  | nil => simp [AV.szl]
  | cons x r ih =>
    simp only [AV.szl, List.length_cons]
    rw [ih fun y hy => h y (List.mem_cons_of_mem _ hy), h x (List.mem_cons_self ..), Nat.add_mul]
    omega

def flat (vs : List Value) : List Value := vs.flatMap fun v => v.cells.toList

theorem flat_nil : flat [] = [] := rfl
theorem flat_cons (v : Value) (vs : List Value) : flat (v :: vs) = v.cells.toList ++ flat vs := rfl
theorem flat_append (vs us : List Value) : flat (vs ++ us) = flat vs ++ flat us := by simp [flat]

theorem flat_length (vs : List Value) (k : Nat) (h : ∀ v ∈ vs, v.cells.size = k) : (flat vs).length = vs.length * k := by
  induction vs with
  | nil => simp [flat]
  | cons v r ih =>
    rw [flat_cons, List.length_append, ih fun u hu => h u (List.mem_cons_of_mem _ hu), List.length_cons, Nat.add_mul, Array.length_toList, h v (List.mem_cons_self ..)]
    omega

/-- The cells of element i of a row of values of one size. -/
theorem flat_at (vs : List Value) (k : Nat) (h : ∀ v ∈ vs, v.cells.size = k) (i : Nat) (v : Value) (hi : vs[i]? = some v) :
    ∀ (j : Nat) (u : Value), v.cells.toList[j]? = some u → (flat vs)[i * k + j]? = some u := by
  induction vs generalizing i with
  | nil => simp at hi
  | cons x r ih =>
    intro j u hu
    rw [flat_cons]
    have hx : x.cells.toList.length = k := by simpa using h x (List.mem_cons_self ..)
    cases i with
    | zero =>
      simp at hi
      subst hi
      have hj : j < x.cells.toList.length := by
        rcases Nat.lt_or_ge j x.cells.toList.length with h' | h'
        · exact h'
        · rw [List.getElem?_eq_none h'] at hu; cases hu
      rw [Nat.zero_mul, Nat.zero_add, List.getElem?_append_left hj]
      exact hu
    | succ i =>
      have := ih (fun u hu => h u (List.mem_cons_of_mem _ hu)) i (by simpa using hi) j u hu
      rw [Nat.add_mul, List.getElem?_append_right (by omega)]
      rw [← this]
      congr 1
      omega

def slen : Value → Nat
  | .slice _ n _ => n
  | _ => 0

structure Ghost where
  G : Nat → Nat → Option Value
  loc : Nat → Option Nat
  row : Nat → Option Value
  own : Nat → Option Nat
  mr : Nat → Option (Nat × Value)

/-- The block that an entity holds alone. -/
def Ghost.blk (g : Ghost) (id : Nat) : Option Nat :=
  match g.loc id with
  | some b => some b
  | none => match g.row id with
    | some _ => g.own id
    | none => (g.mr id).bind fun u => u.2.ownBlock

/-- What a slice of a row that is written has to do with the row's own slice. -/
def MSub (u : Value) (size lo len : Nat) (A : Option Addr) (c : Nat) : Prop :=
  ∃ A0 n0 c0, u = .slice A0 n0 c0 ∧ lo + len ≤ c0 ∧ (lo = 0 → A = A0 ∧ c = c0) ∧ (0 < len → ∃ b, A0 = some ⟨b, 0, none⟩ ∧ A = some ⟨b, lo * size, none⟩)

inductive Rep (g : Ghost) : AV → Value → Prop where
  | any (v : Value) (h : v.oneCell' = true) : Rep g .any v
  | lit (v : Value) (h : v.oneCell' = true) : Rep g (.lit v) v
  | nils : Rep g .nils (.slice none 0 0)
  | slice (own : Option Nat) (xs : List AV) (vs : List Value) (A : Option Addr) (c size : Nat) (hl : vs.length = xs.length) (hc : xs.length ≤ c) (hm : c ≤ maxLen)
      (h : ∀ (i : Nat) (x : AV) (v : Value), xs[i]? = some x → vs[i]? = some v → Rep g x v) (hs : ∀ v ∈ vs, v.cells.size = size)
      (hcell : xs.length = 0 ∨ ∃ b o, A = some ⟨b, o, none⟩ ∧ ∀ (j : Nat) (u : Value), (flat vs)[j]? = some u → g.G b (o + j) = some u)
      (hown : ∀ id, own = some id → ∃ u, g.row id = some u ∧ xs.length ≤ slen u ∧ (xs.length = slen u → Value.slice A xs.length c = u)) :
      Rep g (.slice own xs) (.slice A xs.length c)
  | agg (xs : List AV) (vs : List Value) (hl : vs.length = xs.length) (h : ∀ (i : Nat) (x : AV) (v : Value), xs[i]? = some x → vs[i]? = some v → Rep g x v) : Rep g (.agg xs) (.agg (flat vs).toArray)
  | ptr (id : Nat) (path : List Nat) (off b : Nat) (h : g.loc id = some b) : Rep g (.ptr id path off) (.pointer (some ⟨b, off, none⟩))
  | view (x : AV) (v : Value) (b o : Nat) (h : Rep g x v) (hc : ∀ (j : Nat) (u : Value), v.cells.toList[j]? = some u → g.G b (o + j) = some u) : Rep g (.view x) (.pointer (some ⟨b, o, none⟩))
  | fn (f : FuncId) (xs : List AV) (vs : List Value) (hl : vs.length = xs.length) (h : ∀ (i : Nat) (x : AV) (v : Value), xs[i]? = some x → vs[i]? = some v → Rep g x v) : Rep g (.fn f xs) (.func (.func f) #[] vs.toArray)
  | tup (xs : List AV) (vs : List Value) (hl : vs.length = xs.length) (h : ∀ (i : Nat) (x : AV) (v : Value), xs[i]? = some x → vs[i]? = some v → Rep g x v) : Rep g (.tup xs) (.tuple vs.toArray)
  | clip (xs : List AV) (A : Option Addr) (n : Nat) (h : Rep g (.slice none xs) (.slice A n n)) : Rep g (.clip xs) (.slice A n n)
  | ms (id ver size lo len ver' : Nat) (u : Value) (A : Option Addr) (c : Nat) (hm : g.mr id = some (ver', u)) (hv : ver ≤ ver') (hl : len ≤ c) (hc : c ≤ maxLen) (h : ver = ver' → MSub u size lo len A c) : Rep g (.ms id ver size lo len) (.slice A len c)
  | mp (id ver : Nat) (path : List Nat) (off ver' : Nat) (u : Value) (a : Addr) (hm : g.mr id = some (ver', u)) (hv : ver ≤ ver') (h : ver = ver' → ∃ b n c, u = .slice (some ⟨b, 0, none⟩) n c ∧ a = ⟨b, off, none⟩) : Rep g (.mp id ver path off) (.pointer (some a))
  | bs (id : Nat) (path : List Nat) (lo off len b c : Nat) (h : g.loc id = some b) (hl : len ≤ c) (hc : c ≤ maxLen) : Rep g (.bs id path lo off len) (.slice (some ⟨b, off, none⟩) len c)
  | iface (t : TypeId) (x : AV) (v : Value) (h : Rep g x v) : Rep g (.iface t x) (.iface t v)

structure Ghost.le (g g' : Ghost) : Prop where
  G : ∀ b o v, g.G b o = some v → g'.G b o = some v
  loc : ∀ id b, g.loc id = some b → g'.loc id = some b
  row : ∀ id u, g.row id = some u → ∃ u', g'.row id = some u' ∧ (u' = u ∨ slen u < slen u')
  mr : ∀ id u, g.mr id = some u → ∃ u', g'.mr id = some u' ∧ (u' = u ∨ u.1 < u'.1)

theorem Ghost.le_refl (g : Ghost) : g.le g := ⟨fun _ _ _ h => h, fun _ _ h => h, fun _ u h => ⟨u, h, .inl rfl⟩, fun _ u h => ⟨u, h, .inl rfl⟩⟩

theorem Ghost.le.trans {g g' g'' : Ghost} (h : g.le g') (k : g'.le g'') : g.le g'' := by
  refine ⟨fun b o v hv => k.G _ _ _ (h.G _ _ _ hv), fun id b hb => k.loc _ _ (h.loc _ _ hb), fun id u hu => ?_, fun id u hu => ?_⟩
  · obtain ⟨u', h1, h2⟩ := h.row id u hu
    obtain ⟨u'', k1, k2⟩ := k.row id u' h1
    refine ⟨u'', k1, ?_⟩
    rcases h2 with rfl | h2 <;> rcases k2 with rfl | k2
    · exact .inl rfl
    · exact .inr k2
    · exact .inr h2
    · exact .inr (by omega)
  · obtain ⟨u', h1, h2⟩ := h.mr id u hu
    obtain ⟨u'', k1, k2⟩ := k.mr id u' h1
    refine ⟨u'', k1, ?_⟩
    rcases h2 with rfl | h2 <;> rcases k2 with rfl | k2
    · exact .inl rfl
    · exact .inr k2
    · exact .inr h2
    · exact .inr (by omega)

theorem Rep.mono {g g' : Ghost} (hg : g.le g') {x : AV} {v : Value} (h : Rep g x v) : Rep g' x v := by
  induction h with
  | any v h => exact .any v h
  | lit v h => exact .lit v h
  | nils => exact .nils
  | slice own xs vs A c size hl hc hm _ hs hcell hown ih =>
    refine .slice own xs vs A c size hl hc hm ih hs (hcell.imp id fun ⟨b, o, hA, hG⟩ => ⟨b, o, hA, fun j u hu => hg.G _ _ _ (hG j u hu)⟩) (fun id hid => ?_)
    · obtain ⟨u, h1, h2, h3⟩ := hown id hid
      obtain ⟨u', k1, k2⟩ := hg.row id u h1
      refine ⟨u', k1, ?_, fun he => ?_⟩
      · rcases k2 with rfl | k2 <;> omega
      · rcases k2 with rfl | k2
        · exact h3 he
        · omega
  | agg xs vs hl _ ih => exact .agg xs vs hl ih
  | ptr id path off b h => exact .ptr id path off b (hg.loc _ _ h)
  | view x v b o _ hc ih => exact .view x v b o ih fun j u hu => hg.G _ _ _ (hc j u hu)
  | fn f xs vs hl _ ih => exact .fn f xs vs hl ih
  | tup xs vs hl _ ih => exact .tup xs vs hl ih
  | clip xs A n _ ih => exact .clip xs A n ih
  | ms id ver size lo len ver' u A c hm hv hl hc h =>
    obtain ⟨u', k1, k2⟩ := hg.mr id _ hm
    refine .ms id ver size lo len u'.1 u'.2 A c k1 ?_ hl hc (fun he => ?_)
    · rcases k2 with rfl | k2
      · exact hv
      · simp only at k2; omega
    · rcases k2 with rfl | k2
      · exact h he
      · simp only at k2; omega
  | mp id ver path off ver' u a hm hv h =>
    obtain ⟨u', k1, k2⟩ := hg.mr id _ hm
    refine .mp id ver path off u'.1 u'.2 a k1 ?_ (fun he => ?_)
    · rcases k2 with rfl | k2
      · exact hv
      · simp only at k2; omega
    · rcases k2 with rfl | k2
      · exact h he
      · simp only at k2; omega
  | bs id path lo off len b c h hl hc => exact .bs id path lo off len b c (hg.loc _ _ h) hl hc
  | iface t x v _ ih => exact .iface t x v ih

/-- A reading that says less. -/
def AV.le (x y : AV) : Prop := ∀ (g : Ghost) (v : Value), Rep g x v → Rep g y v
theorem AV.le_refl (x : AV) : AV.le x x := fun _ _ h => h
theorem AV.le_nils0 : AV.le .nils (.slice none []) := fun g v h => by
  cases h
  exact .slice none [] [] none 0 0 rfl (Nat.le_refl _) (by unfold maxLen; omega) (fun i x v h _ => by simp at h) (fun v hv => by simp at hv) (.inl rfl) (fun id hid => by cases hid)
theorem AV.le_clip (xs : List AV) : AV.le (.clip xs) (.slice none xs) := fun _ _ h => by cases h; assumption

theorem flat_size_of (xs : List AV) (vs : List Value) (hl : vs.length = xs.length) (h : ∀ (i : Nat) (x : AV) (v : Value), xs[i]? = some x → vs[i]? = some v → v.cells.size = x.sz) : (flat vs).length = AV.szl xs := by
  induction xs generalizing vs with
  | nil =>
    cases vs with
    | nil => rfl
    | cons _ _ => simp at hl
  | cons x r ih =>
    cases vs with
    | nil => simp at hl
    | cons v vs =>
      rw [flat_cons, List.length_append, AV.szl, ih vs (by simpa using hl) (fun i x' v' h1 h2 => h (i + 1) x' v' (by simpa using h1) (by simpa using h2)), Array.length_toList,
        h 0 x v (by simp) (by simp)]

theorem oneCell_size {v : Value} (h : v.oneCell' = true) : v.cells.size = 1 := by cases v <;> simp [Value.oneCell', Value.cells] at *
theorem oneCell_cells {v : Value} (h : v.oneCell' = true) : v.cells = #[v] := by cases v <;> simp [Value.oneCell', Value.cells] at *

theorem Rep.size {g : Ghost} {x : AV} {v : Value} (h : Rep g x v) : v.cells.size = x.sz := by
  induction h with
  | any v h => simpa [AV.sz] using oneCell_size h
  | lit v h => simpa [AV.sz] using oneCell_size h
  | nils => simp [AV.sz, Value.cells]
  | slice => simp [AV.sz, Value.cells]
  | agg xs vs hl _ ih => simpa [AV.sz, Value.cells] using flat_size_of xs vs hl ih
  | ptr => simp [AV.sz, Value.cells]
  | view => simp [AV.sz, Value.cells]
  | fn => simp [AV.sz, Value.cells]
  | tup => simp [AV.sz, Value.cells]
  | clip => simp [AV.sz, Value.cells]
  | ms => simp [AV.sz, Value.cells]
  | mp => simp [AV.sz, Value.cells]
  | bs => simp [AV.sz, Value.cells]
  | iface => simp [AV.sz, Value.cells]

def AV.isAgg : AV → Bool
  | .agg _ => true
  | _ => false

/-- Not a struct, not an array, not a tuple: one cell. -/
def AV.one : AV → Bool
  | .agg _ | .tup _ => false
  | _ => true

theorem Rep.oneCell {g : Ghost} {x : AV} {v : Value} (h : Rep g x v) (hx : x.one = true) : v.oneCell' = true := by
  cases h <;> simp_all [AV.one, Value.oneCell']

theorem Rep.cells_one {g : Ghost} {x : AV} {v : Value} (h : Rep g x v) (hx : x.one = true) : v.cells = #[v] := oneCell_cells (h.oneCell hx)

/-- No tuple anywhere where a cell is wanted: every cell is one cell. -/
inductive AV.Cellular : AV → Prop where
  | one (x : AV) (h : x.one = true) : AV.Cellular x
  | agg (xs : List AV) (h : ∀ x ∈ xs, AV.Cellular x) : AV.Cellular (.agg xs)

theorem mem_flat {vs : List Value} {u : Value} : u ∈ flat vs ↔ ∃ v ∈ vs, u ∈ v.cells.toList := by simp [flat]

theorem Rep.cellular {g : Ghost} {x : AV} {v : Value} (h : Rep g x v) (hx : x.Cellular) : ∀ u ∈ v.cells.toList, u.oneCell' = true := by
  induction hx generalizing v with
  | one x hx => intro u hu; rw [h.cells_one hx] at hu; simp at hu; subst hu; exact h.oneCell hx
  | agg xs _ ih =>
    cases h with
    | agg _ vs hl hr =>
      intro u hu
      simp only [Value.cells] at hu
      obtain ⟨v, hv, hu⟩ := mem_flat.1 hu
      obtain ⟨i, hi⟩ := List.getElem?_of_mem hv
      have hlt : i < xs.length := by rw [← hl]; exact (List.getElem?_eq_some_iff.1 hi).1
      exact ih xs[i] (List.getElem_mem hlt) (hr i xs[i] v (List.getElem?_eq_getElem hlt) hi) u hu

/-! ### The relation to a world -/

/-- No cell of the block is frozen. -/
def noFz (fz : Nat × Nat) (size : Nat) : Prop := fz.1 = fz.2 ∨ size ≤ fz.1
theorem noFz_zero (size : Nat) : noFz (0, 0) size := .inl rfl
theorem noFz.at {fz : Nat × Nat} {size : Nat} (h : noFz fz size) : ∀ j, j < size → (decide (fz.1 ≤ j) && decide (j < fz.2)) = false := fun j hj => by
  rcases h with h | h
  · rw [h]; by_cases h2 : fz.2 ≤ j
    · simp [Nat.not_lt.2 h2]
    · simp [h2]
  · simp [show ¬ fz.1 ≤ j by omega]

/-- A slice that holds its block alone: nil, or a block of its own, from its first place on. -/
def ownsR (w : World) (base : Nat) (e : TypeId) (size : Nat) (v : Value) (n : Nat) (xs : List Value) : Prop :=
  xs.length = n * size ∧
  ((v = .slice none 0 0 ∧ n = 0) ∨
   ∃ g cap cur fz, v = .slice (some ⟨g, 0, none⟩) n cap ∧ base ≤ g ∧ w.heap[g]? = some (.cells cur e fz) ∧ noFz fz cur.size ∧ n ≤ cap ∧ cap ≤ maxLen ∧ cur.size = cap * size ∧ cur.toList.take (n * size) = xs)

theorem ownsR_nil (w : World) (base : Nat) (e : TypeId) (size : Nat) : ownsR w base e size (.slice none 0 0) 0 [] := ⟨by simp, .inl ⟨rfl, rfl⟩⟩
theorem ownsR.lt {w : World} {base : Nat} {e : TypeId} {size : Nat} {v : Value} {n : Nat} {xs : List Value} (h : ownsR w base e size v n xs) : ∀ k, v.ownBlock = some k → base ≤ k ∧ k < w.heap.size := by
  intro k hk
  rcases h.2 with ⟨rfl, _⟩ | ⟨g, cap, cur, fz, rfl, hb, hg, _⟩
  · simp [Value.ownBlock] at hk
  · simp [Value.ownBlock] at hk
    subst hk
    exact ⟨hb, (Array.getElem?_eq_some_iff.1 hg).1⟩
theorem ownsR.cells {w : World} {base : Nat} {e : TypeId} {size : Nat} {v : Value} {n : Nat} {xs : List Value} (h : ownsR w base e size v n xs) {g : Nat} (hg : v.ownBlock = some g) : ∀ (j : Nat) (u : Value), xs[j]? = some u → w.cell? ⟨g, j, none⟩ = some u := by
  intro j u hu
  rcases h.2 with ⟨rfl, _⟩ | ⟨g', cap, cur, fz, rfl, _, hgg, _, _, _, _, htake⟩
  · simp [Value.ownBlock] at hg
  · simp [Value.ownBlock] at hg
    subst hg
    rw [cell_of_row w g' j cur e fz hgg]
    rw [← htake, List.getElem?_take] at hu
    split at hu
    · simpa using hu
    · cases hu

/-- What an entity is in a world. -/
def EntOK (W0 : World) (g : Ghost) (w : World) (id : Nat) : Ent → Prop
  | .none => g.loc id = none ∧ g.row id = none ∧ g.own id = none ∧ g.mr id = none
  | .box t x => g.row id = none ∧ g.own id = none ∧ g.mr id = none ∧ ∃ b v, g.loc id = some b ∧ Rep g x v ∧ w.heap[b]? = some (.cells v.cells t (0, 0)) ∧ ∀ o, g.G b o = none
  | .fbox t x => g.row id = none ∧ g.own id = none ∧ g.mr id = none ∧ ∃ b v, g.loc id = some b ∧ Rep g x v ∧ w.heap[b]? = some (.cells v.cells t (0, 0)) ∧ ∀ (o : Nat), g.G b o = v.cells[o]?
  | .row e size k => g.loc id = none ∧ ∃ u cells, g.row id = some u ∧ slen u = k ∧
    ((ownsR w W0.heap.size e size u k cells ∧ g.own id = u.ownBlock ∧ ∀ b, u.ownBlock = some b → ∀ (o : Nat), g.G b o = cells[o]?) ∨
     (g.own id = none ∧ cells.length = k * size ∧ k ≤ maxLen ∧ ∃ A, u = .slice (some A) k k ∧ ∀ (j : Nat) (v : Value), cells[j]? = some v → A.spot = none ∧ g.G A.block (A.off + j) = some v))
  | .mrow ver e size xs => g.loc id = none ∧ g.row id = none ∧ g.own id = none ∧ ∃ u vs, g.mr id = some (ver, u) ∧ slen u = xs.length ∧ vs.length = xs.length ∧ (∀ (i : Nat) (x : AV) (v : Value), xs[i]? = some x → vs[i]? = some v → Rep g x v) ∧
    (∀ v ∈ vs, v.cells.size = size) ∧ ownsR w W0.heap.size e size u xs.length (flat vs) ∧ ∀ b, u.ownBlock = some b → ∀ o, g.G b o = none
  | .glob h x => g.loc id = none ∧ g.row id = none ∧ g.own id = none ∧ g.mr id = none ∧ Rep g (.view x) (.pointer (some ⟨h, 0, none⟩))

structure Sim (W0 : World) (g : Ghost) (σ : Nat → Ent) (n : Nat) (w : World) : Prop where
  below : Below W0.heap.size W0 w
  imm : ∀ b o v, g.G b o = some v → w.cell? ⟨b, o, none⟩ = some v
  bound : ∀ id, n ≤ id → σ id = .none
  ents : ∀ id, EntOK W0 g w id (σ id)
  sep : ∀ i j b, g.blk i = some b → g.blk j = some b → i = j
  fresh : ∀ i b, g.blk i = some b → W0.heap.size ≤ b ∧ b < w.heap.size

def upd {α : Type} (f : Nat → α) (k : Nat) (v : α) : Nat → α := fun i => if i = k then v else f i
theorem upd_same {α : Type} (f : Nat → α) (k : Nat) (v : α) : upd f k v k = v := by simp [upd]
theorem upd_ne {α : Type} (f : Nat → α) (k : Nat) (v : α) (i : Nat) (h : i ≠ k) : upd f k v i = f i := by simp [upd, h]
theorem upd_upd {α : Type} (f : Nat → α) (k : Nat) (v u : α) : upd (upd f k v) k u = upd f k u := by
  funext i; unfold upd; split <;> rfl
theorem upd_comm {α : Type} (f : Nat → α) (k j : Nat) (v u : α) (h : k ≠ j) : upd (upd f k v) j u = upd (upd f j u) k v := by
  funext i; unfold upd
  by_cases h1 : i = j
  · by_cases h2 : i = k
    · omega
    · simp [h1]; omega
  · simp [h1]

section
variable {W0 : World} {g g' : Ghost} {σ : Nat → Ent} {n : Nat} {w w' : World}

theorem Sim.free (h : Sim W0 g σ n w) (id : Nat) (hid : σ id = .none) : g.loc id = none ∧ g.row id = none ∧ g.own id = none ∧ g.mr id = none := by
  have := h.ents id; rw [hid] at this; exact this
theorem Sim.box (h : Sim W0 g σ n w) (id : Nat) (t : TypeId) (x : AV) (hx : σ id = .box t x) : ∃ b v, g.loc id = some b ∧ g.row id = none ∧ Rep g x v ∧ w.heap[b]? = some (.cells v.cells t (0, 0)) ∧ ∀ o, g.G b o = none := by
  have := h.ents id; rw [hx] at this
  obtain ⟨h1, _, _, b, v, h2, h3, h4, h5⟩ := this
  exact ⟨b, v, h2, h1, h3, h4, h5⟩
theorem Sim.fbox (h : Sim W0 g σ n w) (id : Nat) (t : TypeId) (x : AV) (hx : σ id = .fbox t x) : ∃ b v, g.loc id = some b ∧ g.row id = none ∧ Rep g x v ∧ w.heap[b]? = some (.cells v.cells t (0, 0)) ∧ ∀ (o : Nat), g.G b o = v.cells[o]? := by
  have := h.ents id; rw [hx] at this
  obtain ⟨h1, _, _, b, v, h2, h3, h4, h5⟩ := this
  exact ⟨b, v, h2, h1, h3, h4, h5⟩

theorem Ghost.blk_loc {g : Ghost} {id b : Nat} (h : g.loc id = some b) : g.blk id = some b := by simp [Ghost.blk, h]
theorem Ghost.blk_row {g : Ghost} {id : Nat} {u : Value} (h : g.loc id = none) (hr : g.row id = some u) : g.blk id = g.own id := by simp [Ghost.blk, h, hr]
theorem Ghost.blk_mr {g : Ghost} {id : Nat} {u : Nat × Value} (h : g.loc id = none) (hr : g.row id = none) (hm : g.mr id = some u) : g.blk id = u.2.ownBlock := by simp [Ghost.blk, h, hr, hm]
theorem Ghost.blk_none {g : Ghost} {id : Nat} (h : g.loc id = none) (h2 : g.row id = none) (hm : g.mr id = none) : g.blk id = none := by simp [Ghost.blk, h, h2, hm]

/-- An entity that nothing happens to. -/
theorem EntOK.same {id : Nat} {E : Ent} (h : EntOK W0 g w id E) (hg : g.le g') (h1 : g'.loc id = g.loc id) (h2 : g'.row id = g.row id) (h3 : g'.own id = g.own id) (h4 : g'.mr id = g.mr id)
    (hb : ∀ b, g.blk id = some b → w'.heap[b]? = w.heap[b]? ∧ ∀ o, g'.G b o = g.G b o) : EntOK W0 g' w' id E := by
  cases E with
  | none => exact ⟨h1.trans h.1, h2.trans h.2.1, h3.trans h.2.2.1, h4.trans h.2.2.2⟩
  | glob q x => exact ⟨h1.trans h.1, h2.trans h.2.1, h3.trans h.2.2.1, h4.trans h.2.2.2.1, h.2.2.2.2.mono hg⟩
  | box t x =>
    obtain ⟨k1, k2, k3, b, v, k4, k5, k6, k7⟩ := h
    obtain ⟨l1, l2⟩ := hb b (Ghost.blk_loc k4)
    exact ⟨h2.trans k1, h3.trans k2, h4.trans k3, b, v, h1.trans k4, k5.mono hg, l1.trans k6, fun o => (l2 o).trans (k7 o)⟩
  | fbox t x =>
    obtain ⟨k1, k2, k3, b, v, k4, k5, k6, k7⟩ := h
    obtain ⟨l1, l2⟩ := hb b (Ghost.blk_loc k4)
    exact ⟨h2.trans k1, h3.trans k2, h4.trans k3, b, v, h1.trans k4, k5.mono hg, l1.trans k6, fun o => (l2 o).trans (k7 o)⟩
  | row e size k =>
    obtain ⟨k1, u, cells, k3, k4, k5⟩ := h
    refine ⟨h1.trans k1, u, cells, h2.trans k3, k4, ?_⟩
    rcases k5 with ⟨k5, k6, k7⟩ | ⟨k5, k6, k7, A, k8, k9⟩
    · have hbl : ∀ b, u.ownBlock = some b → w'.heap[b]? = w.heap[b]? ∧ ∀ o, g'.G b o = g.G b o := fun b hb' => hb b (by rw [Ghost.blk_row k1 k3, k6]; exact hb')
      refine .inl ⟨⟨k5.1, ?_⟩, h3.trans k6, fun b hb' o => ((hbl b hb').2 o).trans (k7 b hb' o)⟩
      rcases k5.2 with hz | ⟨g0, cap, cur, fz, rfl, r1, r2, r3⟩
      · exact .inl hz
      · exact .inr ⟨g0, cap, cur, fz, rfl, r1, (hbl g0 rfl).1.trans r2, r3⟩
    · exact .inr ⟨h3.trans k5, k6, k7, A, k8, fun j v hv => ⟨(k9 j v hv).1, hg.G _ _ _ (k9 j v hv).2⟩⟩
  | mrow ver e size xs =>
    obtain ⟨k1, k2, k3, u, vs, k4, k5, k6, k7, k8, k9, k10⟩ := h
    have hbl : ∀ b, u.ownBlock = some b → w'.heap[b]? = w.heap[b]? ∧ ∀ o, g'.G b o = g.G b o := fun b hb' => hb b (by rw [Ghost.blk_mr k1 k2 k4]; exact hb')
    refine ⟨h1.trans k1, h2.trans k2, h3.trans k3, u, vs, h4.trans k4, k5, k6, fun i x v hx hv => (k7 i x v hx hv).mono hg, k8, ⟨k9.1, ?_⟩, fun b hb' o => ((hbl b hb').2 o).trans (k10 b hb' o)⟩
    rcases k9.2 with hz | ⟨g0, cap, cur, fz, rfl, r1, r2, r3⟩
    · exact .inl hz
    · exact .inr ⟨g0, cap, cur, fz, rfl, r1, (hbl g0 rfl).1.trans r2, r3⟩

/-- A world with the same heap and streams. -/
theorem Sim.same_heap (h : Sim W0 g σ n w) (hh : w'.heap = w.heap) (h1 : w'.os = w.os) (h2 : w'.tape = w.tape) (h3 : w'.output = w.output) : Sim W0 g σ n w' := by
  have hc : ∀ a, w'.cell? a = w.cell? a := fun a => by simp [World.cell?, hh]
  exact ⟨⟨by rw [h1]; exact h.below.os, by rw [h2]; exact h.below.tape, by rw [h3]; exact h.below.output, by rw [hh]; exact h.below.size, by rw [hh]; exact h.below.block⟩,
    fun b o v hv => by rw [hc]; exact h.imm b o v hv, h.bound, fun id => (h.ents id).same g.le_refl rfl rfl rfl rfl fun b _ => ⟨by rw [hh], fun _ => rfl⟩, h.sep, fun i b hb => by rw [hh]; exact h.fresh i b hb⟩

theorem Sim.drew (h : Sim W0 g σ n w) : Sim W0 g σ n { w with drawn := w.drawn + 1 } := h.same_heap rfl rfl rfl rfl

theorem Sim.more (h : Sim W0 g σ n w) {n' : Nat} (hn : n ≤ n') : Sim W0 g σ n' w := { h with bound := fun id hid => h.bound id (Nat.le_trans hn hid) }

/-- The size of a block that an entity holds. -/
theorem Sim.lt (h : Sim W0 g σ n w) {i b : Nat} (hb : g.blk i = some b) : b < w.heap.size := (h.fresh i b hb).2

/-- One entity is turned; the blocks of all others stay. -/
theorem Sim.change (h : Sim W0 g σ n w) {k : Nat} {E : Ent} (hn : k < n) (hle : g.le g') (hbelow : Below W0.heap.size W0 w') (himm : ∀ b o v, g'.G b o = some v → w'.cell? ⟨b, o, none⟩ = some v)
    (hsame : ∀ id, id ≠ k → g'.loc id = g.loc id ∧ g'.row id = g.row id ∧ g'.own id = g.own id ∧ g'.mr id = g.mr id)
    (hblk : ∀ id, id ≠ k → ∀ b, g.blk id = some b → (w'.heap[b]? = w.heap[b]? ∧ ∀ o, g'.G b o = g.G b o) ∧ g'.blk k ≠ some b)
    (hE : EntOK W0 g' w' k E) (hfresh : ∀ b, g'.blk k = some b → W0.heap.size ≤ b ∧ b < w'.heap.size) (hsz : w.heap.size ≤ w'.heap.size) : Sim W0 g' (upd σ k E) n w' := by
  have bs : ∀ id, id ≠ k → g'.blk id = g.blk id := fun id hid => by
    obtain ⟨h1, h2, h3, h4⟩ := hsame id hid
    simp [Ghost.blk, h1, h2, h3, h4]
  refine ⟨hbelow, himm, fun id hid => ?_, fun id => ?_, fun i j b hi hj => ?_, fun i b hi => ?_⟩
  · rw [upd_ne _ _ _ _ (by omega)]; exact h.bound id hid
  · by_cases hid : id = k
    · subst hid; rw [upd_same]; exact hE
    · rw [upd_ne _ _ _ _ hid]
      obtain ⟨h1, h2, h3, h4⟩ := hsame id hid
      exact (h.ents id).same hle h1 h2 h3 h4 fun b hb => (hblk id hid b hb).1
  · by_cases h1 : i = k <;> by_cases h2 : j = k
    · omega
    · subst h1; rw [bs j h2] at hj; exact absurd hi (hblk j h2 b hj).2
    · subst h2; rw [bs i h1] at hi; exact absurd hj (hblk i h1 b hi).2
    · rw [bs i h1] at hi; rw [bs j h2] at hj; exact h.sep i j b hi hj
  · by_cases h1 : i = k
    · subst h1; exact hfresh b hi
    · rw [bs i h1] at hi; exact ⟨(h.fresh i b hi).1, Nat.lt_of_lt_of_le (h.fresh i b hi).2 hsz⟩
end
end Go.Ab
