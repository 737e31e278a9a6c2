/- Texts A1, A2, A3, A4, A5, A6, A7, A8, A9, A10, A11, A12, joined. -/
import Derived.Orders
import Derived.Below
import Derived.Laws.AppendOwn
import Derived.Laws.CopyRow
import Derived.Laws.Cells
import Derived.Laws.Rows
import Derived.Still
import Derived.OrdersIn
import Derived.RangeFuncRecord
import Derived.Laws.Strings
import Derived.Laws.Slices
import Derived.Laws.BytesString
import Derived.Laws.MakeOwn

namespace Go.Ab
open Go.RowKit
inductive AV where
 | any
 | lit (v : Value)
 | nils
 | slice (own : Option Nat) (xs : List AV)
 | agg (xs : List AV)
 | ptr (id : Nat) (path : List Nat) (off : Nat)
 | view (x : AV)
 | fn (f : FuncId) (xs : List AV)
 | tup (xs : List AV)
 | clip (xs : List AV)
 | ms (id ver size lo len : Nat)
 | mp (id ver : Nat) (path : List Nat) (off : Nat)
 | bs (id : Nat) (path : List Nat) (lo off len : Nat)
 | iface (t : TypeId) (x : AV)
instance : Inhabited AV := ⟨.any⟩
structure Ghost where
 G : Nat → Nat → Option Value
 loc : Nat → Option Nat
 row : Nat → Option Value
 own : Nat → Option Nat
 mr : Nat → Option (Nat × Value)
inductive Ent where
 | none
 | box (t : TypeId) (x : AV)
 | fbox (t : TypeId) (x : AV)
 | row (e : TypeId) (size n : Nat)
 | mrow (ver : Nat) (e : TypeId) (size : Nat) (xs : List AV)
 | glob (h : Nat) (x : AV)
 | mark
 | loop (l N : Nat) (r : Loop) (s : Nat → AV)
instance : Inhabited Ent := ⟨.none⟩
mutual
def AV.sz : AV → Nat
 | .agg xs => AV.szl xs
 | _ => 1
def AV.szl : List AV → Nat
 | [] => 0
 | x :: r => AV.sz x + AV.szl r
end
theorem AV.szl_append (xs ys : List AV) : AV.szl (xs ++ ys) = AV.szl xs + AV.szl ys := by
 induction xs with
 | nil => simp [AV.szl]
 | cons x r ih => simp [AV.szl, ih, Nat.add_assoc]
theorem AV.szl_uniform (xs : List AV) (k : Nat) (h : ∀ x ∈ xs, x.sz = k) : AV.szl xs = xs.length * k := by
 induction xs with
 | nil => simp [AV.szl]
 | cons x r ih =>
  simp only [AV.szl, List.length_cons]
  rw [ih fun y hy => h y (List.mem_cons_of_mem _ hy), h x (List.mem_cons_self ..), Nat.add_mul]
  omega
def flat (vs : List Value) : List Value := vs.flatMap fun v => v.cells.toList
theorem flat_cons (v : Value) (vs : List Value) : flat (v :: vs) = v.cells.toList ++ flat vs := rfl
theorem flat_append (vs us : List Value) : flat (vs ++ us) = flat vs ++ flat us := by simp [flat]
theorem flat_length (vs : List Value) (k : Nat) (h : ∀ v ∈ vs, v.cells.size = k) : (flat vs).length = vs.length * k := by
 induction vs with
 | nil => simp [flat]
 | cons v r ih =>
  rw [flat_cons, List.length_append, ih fun u hu => h u (List.mem_cons_of_mem _ hu), List.length_cons, Nat.add_mul, Array.length_toList, h v (List.mem_cons_self ..)]
  omega
theorem flat_at (vs : List Value) (k : Nat) (h : ∀ v ∈ vs, v.cells.size = k) (i : Nat) (v : Value) (hi : vs[i]? = some v) :
  ∀ (j : Nat) (u : Value), v.cells.toList[j]? = some u → (flat vs)[i * k + j]? = some u := by
 induction vs generalizing i with
 | nil => simp at hi
 | cons x r ih =>
  intro j u hu
  rw [flat_cons]
  have hx : x.cells.toList.length = k := by simpa using h x (List.mem_cons_self ..)
  cases i with
  | zero =>
   simp at hi
   subst hi
   have hj : j < x.cells.toList.length := by
    rcases Nat.lt_or_ge j x.cells.toList.length with h' | h'
    ·exact h'
    ·rw [List.getElem?_eq_none h'] at hu; cases hu
   rw [Nat.zero_mul, Nat.zero_add, List.getElem?_append_left hj]
   exact hu
  | succ i =>
   have := ih (fun u hu => h u (List.mem_cons_of_mem _ hu)) i (by simpa using hi) j u hu
   rw [Nat.add_mul, List.getElem?_append_right (by omega)]
   rw [← this]
   congr 1
   omega
def slen : Value → Nat
 | .slice _ n _ => n
 | _ => 0
def Ghost.blk (g : Ghost) (id : Nat) : Option Nat :=
 match g.loc id with
 | some b => some b
 | none => match g.row id with
  | some _ => g.own id
  | none => (g.mr id).bind fun u => u.2.ownBlock
def MSub (u : Value) (size lo len : Nat) (A : Option Addr) (c : Nat) : Prop :=
 ∃ A0 n0 c0, u = .slice A0 n0 c0 ∧ lo + len ≤ c0 ∧ (lo = 0 → A = A0 ∧ c = c0) ∧ (0 < len → ∃ b, A0 = some ⟨b, 0, none⟩ ∧ A = some ⟨b, lo * size, none⟩)
inductive Rep (g : Ghost) : AV → Value → Prop where
 | any (v : Value) (h : v.oneCell' = true) : Rep g .any v
 | lit (v : Value) (h : v.oneCell' = true) : Rep g (.lit v) v
 | nils : Rep g .nils (.slice none 0 0)
 | slice (own : Option Nat) (xs : List AV) (vs : List Value) (A : Option Addr) (c size : Nat) (hl : vs.length = xs.length) (hc : xs.length ≤ c) (hm : c ≤ maxLen)
   (h : ∀ (i : Nat) (x : AV) (v : Value), xs[i]? = some x → vs[i]? = some v → Rep g x v) (hs : ∀ v ∈ vs, v.cells.size = size)
   (hcell : xs.length = 0 ∨ ∃ b o, A = some ⟨b, o, none⟩ ∧ ∀ (j : Nat) (u : Value), (flat vs)[j]? = some u → g.G b (o + j) = some u)
   (hown : ∀ id, own = some id → ∃ u, g.row id = some u ∧ xs.length ≤ slen u ∧ (xs.length = slen u → Value.slice A xs.length c = u)) :
   Rep g (.slice own xs) (.slice A xs.length c)
 | agg (xs : List AV) (vs : List Value) (hl : vs.length = xs.length) (h : ∀ (i : Nat) (x : AV) (v : Value), xs[i]? = some x → vs[i]? = some v → Rep g x v) : Rep g (.agg xs) (.agg (flat vs).toArray)
 | ptr (id : Nat) (path : List Nat) (off b : Nat) (h : g.loc id = some b) : Rep g (.ptr id path off) (.pointer (some ⟨b, off, none⟩))
 | view (x : AV) (v : Value) (b o : Nat) (h : Rep g x v) (hc : ∀ (j : Nat) (u : Value), v.cells.toList[j]? = some u → g.G b (o + j) = some u) : Rep g (.view x) (.pointer (some ⟨b, o, none⟩))
 | fn (f : FuncId) (xs : List AV) (vs : List Value) (hl : vs.length = xs.length) (h : ∀ (i : Nat) (x : AV) (v : Value), xs[i]? = some x → vs[i]? = some v → Rep g x v) : Rep g (.fn f xs) (.func (.func f) #[] vs.toArray)
 | tup (xs : List AV) (vs : List Value) (hl : vs.length = xs.length) (h : ∀ (i : Nat) (x : AV) (v : Value), xs[i]? = some x → vs[i]? = some v → Rep g x v) : Rep g (.tup xs) (.tuple vs.toArray)
 | clip (xs : List AV) (A : Option Addr) (n : Nat) (h : Rep g (.slice none xs) (.slice A n n)) : Rep g (.clip xs) (.slice A n n)
 | ms (id ver size lo len ver' : Nat) (u : Value) (A : Option Addr) (c : Nat) (hm : g.mr id = some (ver', u)) (hv : ver ≤ ver') (hl : len ≤ c) (hc : c ≤ maxLen) (h : ver = ver' → MSub u size lo len A c) : Rep g (.ms id ver size lo len) (.slice A len c)
 | mp (id ver : Nat) (path : List Nat) (off ver' : Nat) (u : Value) (a : Addr) (hm : g.mr id = some (ver', u)) (hv : ver ≤ ver') (h : ver = ver' → ∃ b n c, u = .slice (some ⟨b, 0, none⟩) n c ∧ a = ⟨b, off, none⟩) : Rep g (.mp id ver path off) (.pointer (some a))
 | bs (id : Nat) (path : List Nat) (lo off len b c : Nat) (h : g.loc id = some b) (hl : len ≤ c) (hc : c ≤ maxLen) : Rep g (.bs id path lo off len) (.slice (some ⟨b, off, none⟩) len c)
 | iface (t : TypeId) (x : AV) (v : Value) (h : Rep g x v) : Rep g (.iface t x) (.iface t v)
structure Ghost.le (g g' : Ghost) : Prop where
 G : ∀ b o v, g.G b o = some v → g'.G b o = some v
 loc : ∀ id b, g.loc id = some b → g'.loc id = some b
 row : ∀ id u, g.row id = some u → ∃ u', g'.row id = some u' ∧ (u' = u ∨ slen u < slen u')
 mr : ∀ id u, g.mr id = some u → ∃ u', g'.mr id = some u' ∧ (u' = u ∨ u.1 < u'.1)
theorem Ghost.le_refl (g : Ghost) : g.le g := ⟨fun _ _ _ h => h, fun _ _ h => h, fun _ u h => ⟨u, h, .inl rfl⟩, fun _ u h => ⟨u, h, .inl rfl⟩⟩
theorem Ghost.le.trans {g g' g'' : Ghost} (h : g.le g') (k : g'.le g'') : g.le g'' := by
 refine ⟨fun b o v hv => k.G _ _ _ (h.G _ _ _ hv), fun id b hb => k.loc _ _ (h.loc _ _ hb), fun id u hu => ?_, fun id u hu => ?_⟩
 ·obtain ⟨u', h1, h2⟩ := h.row id u hu
  obtain ⟨u'', k1, k2⟩ := k.row id u' h1
  refine ⟨u'', k1, ?_⟩
  rcases h2 with rfl | h2 <;> rcases k2 with rfl | k2
  ·exact .inl rfl
  ·exact .inr k2
  ·exact .inr h2
  ·exact .inr (by omega)
 ·obtain ⟨u', h1, h2⟩ := h.mr id u hu
  obtain ⟨u'', k1, k2⟩ := k.mr id u' h1
  refine ⟨u'', k1, ?_⟩
  rcases h2 with rfl | h2 <;> rcases k2 with rfl | k2
  ·exact .inl rfl
  ·exact .inr k2
  ·exact .inr h2
  ·exact .inr (by omega)
theorem Rep.mono {g g' : Ghost} (hg : g.le g') {x : AV} {v : Value} (h : Rep g x v) : Rep g' x v := by
 induction h with
 | any v h => exact .any v h
 | lit v h => exact .lit v h
 | nils => exact .nils
 | slice own xs vs A c size hl hc hm _ hs hcell hown ih =>
  refine .slice own xs vs A c size hl hc hm ih hs (hcell.imp id fun ⟨b, o, hA, hG⟩ => ⟨b, o, hA, fun j u hu => hg.G _ _ _ (hG j u hu)⟩) (fun id hid => ?_)
  ·obtain ⟨u, h1, h2, h3⟩ := hown id hid
   obtain ⟨u', k1, k2⟩ := hg.row id u h1
   refine ⟨u', k1, ?_, fun he => ?_⟩
   ·rcases k2 with rfl | k2 <;> omega
   ·rcases k2 with rfl | k2
    ·exact h3 he
    ·omega
 | agg xs vs hl _ ih => exact .agg xs vs hl ih
 | ptr id path off b h => exact .ptr id path off b (hg.loc _ _ h)
 | view x v b o _ hc ih => exact .view x v b o ih fun j u hu => hg.G _ _ _ (hc j u hu)
 | fn f xs vs hl _ ih => exact .fn f xs vs hl ih
 | tup xs vs hl _ ih => exact .tup xs vs hl ih
 | clip xs A n _ ih => exact .clip xs A n ih
 | ms id ver size lo len ver' u A c hm hv hl hc h =>
  obtain ⟨u', k1, k2⟩ := hg.mr id _ hm
  refine .ms id ver size lo len u'.1 u'.2 A c k1 ?_ hl hc (fun he => ?_)
  ·rcases k2 with rfl | k2
   ·exact hv
   ·simp only at k2; omega
  ·rcases k2 with rfl | k2
   ·exact h he
   ·simp only at k2; omega
 | mp id ver path off ver' u a hm hv h =>
  obtain ⟨u', k1, k2⟩ := hg.mr id _ hm
  refine .mp id ver path off u'.1 u'.2 a k1 ?_ (fun he => ?_)
  ·rcases k2 with rfl | k2
   ·exact hv
   ·simp only at k2; omega
  ·rcases k2 with rfl | k2
   ·exact h he
   ·simp only at k2; omega
 | bs id path lo off len b c h hl hc => exact .bs id path lo off len b c (hg.loc _ _ h) hl hc
 | iface t x v _ ih => exact .iface t x v ih
def AV.le (x y : AV) : Prop := ∀ (g : Ghost) (v : Value), Rep g x v → Rep g y v
theorem AV.le_refl (x : AV) : AV.le x x := fun _ _ h => h
theorem AV.le_nils0 : AV.le .nils (.slice none []) := fun g v h => by
 cases h
 exact .slice none [] [] none 0 0 rfl (Nat.le_refl _) (by unfold maxLen; omega) (fun i x v h _ => by simp at h) (fun v hv => by simp at hv) (.inl rfl) (fun id hid => by cases hid)
theorem AV.le_clip (xs : List AV) : AV.le (.clip xs) (.slice none xs) := fun _ _ h => by cases h; assumption
theorem flat_size_of (xs : List AV) (vs : List Value) (hl : vs.length = xs.length) (h : ∀ (i : Nat) (x : AV) (v : Value), xs[i]? = some x → vs[i]? = some v → v.cells.size = x.sz) : (flat vs).length = AV.szl xs := by
 induction xs generalizing vs with
 | nil =>
  cases vs with
  | nil => rfl
  | cons _ _ => simp at hl
 | cons x r ih =>
  cases vs with
  | nil => simp at hl
  | cons v vs =>
   rw [flat_cons, List.length_append, AV.szl, ih vs (by simpa using hl) (fun i x' v' h1 h2 => h (i + 1) x' v' (by simpa using h1) (by simpa using h2)), Array.length_toList,
    h 0 x v (by simp) (by simp)]
theorem oneCell_size {v : Value} (h : v.oneCell' = true) : v.cells.size = 1 := by cases v <;> simp [Value.oneCell', Value.cells] at *
theorem oneCell_cells {v : Value} (h : v.oneCell' = true) : v.cells = #[v] := by cases v <;> simp [Value.oneCell', Value.cells] at *
theorem Rep.size {g : Ghost} {x : AV} {v : Value} (h : Rep g x v) : v.cells.size = x.sz := by
 induction h with
 | any v h => simpa [AV.sz] using oneCell_size h
 | lit v h => simpa [AV.sz] using oneCell_size h
 | nils => simp [AV.sz, Value.cells]
 | slice => simp [AV.sz, Value.cells]
 | agg xs vs hl _ ih => simpa [AV.sz, Value.cells] using flat_size_of xs vs hl ih
 | ptr => simp [AV.sz, Value.cells]
 | view => simp [AV.sz, Value.cells]
 | fn => simp [AV.sz, Value.cells]
 | tup => simp [AV.sz, Value.cells]
 | clip => simp [AV.sz, Value.cells]
 | ms => simp [AV.sz, Value.cells]
 | mp => simp [AV.sz, Value.cells]
 | bs => simp [AV.sz, Value.cells]
 | iface => simp [AV.sz, Value.cells]
def AV.isAgg : AV → Bool
 | .agg _ => true
 | _ => false
def AV.one : AV → Bool
 | .agg _ | .tup _ => false
 | _ => true
theorem Rep.oneCell {g : Ghost} {x : AV} {v : Value} (h : Rep g x v) (hx : x.one = true) : v.oneCell' = true := by
 cases h <;> simp_all [AV.one, Value.oneCell']
theorem Rep.cells_one {g : Ghost} {x : AV} {v : Value} (h : Rep g x v) (hx : x.one = true) : v.cells = #[v] := oneCell_cells (h.oneCell hx)
inductive AV.Cellular : AV → Prop where
 | one (x : AV) (h : x.one = true) : AV.Cellular x
 | agg (xs : List AV) (h : ∀ x ∈ xs, AV.Cellular x) : AV.Cellular (.agg xs)
theorem mem_flat {vs : List Value} {u : Value} : u ∈ flat vs ↔ ∃ v ∈ vs, u ∈ v.cells.toList := by simp [flat]
def noFz (fz : Nat × Nat) (size : Nat) : Prop := fz.1 = fz.2 ∨ size ≤ fz.1
theorem noFz_zero (size : Nat) : noFz (0, 0) size := .inl rfl
theorem noFz.at {fz : Nat × Nat} {size : Nat} (h : noFz fz size) : ∀ j, j < size → (decide (fz.1 ≤ j) && decide (j < fz.2)) = false := fun j hj => by
 rcases h with h | h
 ·rw [h]; by_cases h2 : fz.2 ≤ j
  ·simp [Nat.not_lt.2 h2]
  ·simp [h2]
 ·simp [show ¬ fz.1 ≤ j by omega]
def ownsR (w : World) (base : Nat) (e : TypeId) (size : Nat) (v : Value) (n : Nat) (xs : List Value) : Prop :=
 xs.length = n * size ∧
 ((v = .slice none 0 0 ∧ n = 0) ∨
  ∃ g cap cur fz, v = .slice (some ⟨g, 0, none⟩) n cap ∧ base ≤ g ∧ w.heap[g]? = some (.cells cur e fz) ∧ noFz fz cur.size ∧ n ≤ cap ∧ cap ≤ maxLen ∧ cur.size = cap * size ∧ cur.toList.take (n * size) = xs)
theorem ownsR_nil (w : World) (base : Nat) (e : TypeId) (size : Nat) : ownsR w base e size (.slice none 0 0) 0 [] := ⟨by simp, .inl ⟨rfl, rfl⟩⟩
theorem ownsR.lt {w : World} {base : Nat} {e : TypeId} {size : Nat} {v : Value} {n : Nat} {xs : List Value} (h : ownsR w base e size v n xs) : ∀ k, v.ownBlock = some k → base ≤ k ∧ k < w.heap.size := by
 intro k hk
 rcases h.2 with ⟨rfl, _⟩ | ⟨g, cap, cur, fz, rfl, hb, hg, _⟩
 ·simp [Value.ownBlock] at hk
 ·simp [Value.ownBlock] at hk
  subst hk
  exact ⟨hb, (Array.getElem?_eq_some_iff.1 hg).1⟩
theorem ownsR.cells {w : World} {base : Nat} {e : TypeId} {size : Nat} {v : Value} {n : Nat} {xs : List Value} (h : ownsR w base e size v n xs) {g : Nat} (hg : v.ownBlock = some g) : ∀ (j : Nat) (u : Value), xs[j]? = some u → w.cell? ⟨g, j, none⟩ = some u := by
 intro j u hu
 rcases h.2 with ⟨rfl, _⟩ | ⟨g', cap, cur, fz, rfl, _, hgg, _, _, _, _, htake⟩
 ·simp [Value.ownBlock] at hg
 ·simp [Value.ownBlock] at hg
  subst hg
  rw [cell_of_row w g' j cur e fz hgg]
  rw [← htake, List.getElem?_take] at hu
  split at hu
  ·simpa using hu
  ·cases hu
def EntOK (W0 : World) (g : Ghost) (w : World) (id : Nat) : Ent → Prop
 | .none => g.loc id = none ∧ g.row id = none ∧ g.own id = none ∧ g.mr id = none
 | .box t x => g.row id = none ∧ g.own id = none ∧ g.mr id = none ∧ ∃ b v, g.loc id = some b ∧ Rep g x v ∧ w.heap[b]? = some (.cells v.cells t (0, 0)) ∧ ∀ o, g.G b o = none
 | .fbox t x => g.row id = none ∧ g.own id = none ∧ g.mr id = none ∧ ∃ b v, g.loc id = some b ∧ Rep g x v ∧ w.heap[b]? = some (.cells v.cells t (0, 0)) ∧ ∀ (o : Nat), g.G b o = v.cells[o]?
 | .row e size k => g.loc id = none ∧ ∃ u cells, g.row id = some u ∧ slen u = k ∧
  ((ownsR w W0.heap.size e size u k cells ∧ g.own id = u.ownBlock ∧ ∀ b, u.ownBlock = some b → ∀ (o : Nat), g.G b o = cells[o]?) ∨
   (g.own id = none ∧ cells.length = k * size ∧ k ≤ maxLen ∧ ∃ A, u = .slice (some A) k k ∧ ∀ (j : Nat) (v : Value), cells[j]? = some v → A.spot = none ∧ g.G A.block (A.off + j) = some v))
 | .mrow ver e size xs => g.loc id = none ∧ g.row id = none ∧ g.own id = none ∧ ∃ u vs, g.mr id = some (ver, u) ∧ slen u = xs.length ∧ vs.length = xs.length ∧ (∀ (i : Nat) (x : AV) (v : Value), xs[i]? = some x → vs[i]? = some v → Rep g x v) ∧
  (∀ v ∈ vs, v.cells.size = size) ∧ ownsR w W0.heap.size e size u xs.length (flat vs) ∧ ∀ b, u.ownBlock = some b → ∀ o, g.G b o = none
 | .glob h x => g.loc id = none ∧ g.row id = none ∧ g.own id = none ∧ (∃ u, g.mr id = some u ∧ u.2.ownBlock = none) ∧ Rep g (.view x) (.pointer (some ⟨h, 0, none⟩))
 | .mark => g.own id = none ∧ g.mr id = none ∧ ∃ b u, g.loc id = some b ∧ g.row id = some u ∧ w.heap[b]? = some (.deferred (some [])) ∧ ∀ o, g.G b o = none
 | .loop l N r s => g.own id = none ∧ g.row id = none ∧ (∃ u, g.mr id = some u) ∧ g.loc id = some l ∧ (∃ T : Array Value, T.size = N ∧ (∀ t, Rep g (s t) (T.getD t undef)) ∧ w.heap[l]? = some (.loop { r with tmps := T })) ∧ ∀ o, g.G l o = none
structure Sim (W0 : World) (g : Ghost) (σ : Nat → Ent) (n : Nat) (w : World) : Prop where
 below : Below W0.heap.size W0 w
 imm : ∀ b o v, g.G b o = some v → w.cell? ⟨b, o, none⟩ = some v
 bound : ∀ id, n ≤ id → σ id = .none
 ents : ∀ id, EntOK W0 g w id (σ id)
 sep : ∀ i j b, g.blk i = some b → g.blk j = some b → i = j
 fresh : ∀ i b, g.blk i = some b → W0.heap.size ≤ b ∧ b < w.heap.size
def upd {α : Type} (f : Nat → α) (k : Nat) (v : α) : Nat → α := fun i => if i = k then v else f i
theorem upd_same {α : Type} (f : Nat → α) (k : Nat) (v : α) : upd f k v k = v := by simp [upd]
theorem upd_ne {α : Type} (f : Nat → α) (k : Nat) (v : α) (i : Nat) (h : i ≠ k) : upd f k v i = f i := by simp [upd, h]
theorem upd_upd {α : Type} (f : Nat → α) (k : Nat) (v u : α) : upd (upd f k v) k u = upd f k u := by
 funext i; unfold upd; split <;> rfl
theorem upd_comm {α : Type} (f : Nat → α) (k j : Nat) (v u : α) (h : k ≠ j) : upd (upd f k v) j u = upd (upd f j u) k v := by
 funext i; unfold upd
 by_cases h1 : i = j
 ·by_cases h2 : i = k
  ·omega
  ·simp [h1]; omega
 ·simp [h1]
section
variable {W0 : World} {g g' : Ghost} {σ : Nat → Ent} {n : Nat} {w w' : World}
theorem Sim.free (h : Sim W0 g σ n w) (id : Nat) (hid : σ id = .none) : g.loc id = none ∧ g.row id = none ∧ g.own id = none ∧ g.mr id = none := by
 have := h.ents id; rw [hid] at this; exact this
theorem Sim.box (h : Sim W0 g σ n w) (id : Nat) (t : TypeId) (x : AV) (hx : σ id = .box t x) : ∃ b v, g.loc id = some b ∧ g.row id = none ∧ Rep g x v ∧ w.heap[b]? = some (.cells v.cells t (0, 0)) ∧ ∀ o, g.G b o = none := by
 have := h.ents id; rw [hx] at this
 obtain ⟨h1, _, _, b, v, h2, h3, h4, h5⟩ := this
 exact ⟨b, v, h2, h1, h3, h4, h5⟩
theorem Sim.fbox (h : Sim W0 g σ n w) (id : Nat) (t : TypeId) (x : AV) (hx : σ id = .fbox t x) : ∃ b v, g.loc id = some b ∧ g.row id = none ∧ Rep g x v ∧ w.heap[b]? = some (.cells v.cells t (0, 0)) ∧ ∀ (o : Nat), g.G b o = v.cells[o]? := by
 have := h.ents id; rw [hx] at this
 obtain ⟨h1, _, _, b, v, h2, h3, h4, h5⟩ := this
 exact ⟨b, v, h2, h1, h3, h4, h5⟩
theorem Ghost.blk_loc {g : Ghost} {id b : Nat} (h : g.loc id = some b) : g.blk id = some b := by simp [Ghost.blk, h]
theorem Ghost.blk_row {g : Ghost} {id : Nat} {u : Value} (h : g.loc id = none) (hr : g.row id = some u) : g.blk id = g.own id := by simp [Ghost.blk, h, hr]
theorem Ghost.blk_mr {g : Ghost} {id : Nat} {u : Nat × Value} (h : g.loc id = none) (hr : g.row id = none) (hm : g.mr id = some u) : g.blk id = u.2.ownBlock := by simp [Ghost.blk, h, hr, hm]
theorem EntOK.same {id : Nat} {E : Ent} (h : EntOK W0 g w id E) (hg : g.le g') (h1 : g'.loc id = g.loc id) (h2 : g'.row id = g.row id) (h3 : g'.own id = g.own id) (h4 : g'.mr id = g.mr id)
  (hb : ∀ b, g.blk id = some b → w'.heap[b]? = w.heap[b]? ∧ ∀ o, g'.G b o = g.G b o) : EntOK W0 g' w' id E := by
 cases E with
 | none => exact ⟨h1.trans h.1, h2.trans h.2.1, h3.trans h.2.2.1, h4.trans h.2.2.2⟩
 | glob q x =>
  obtain ⟨k1, k2, k3, ⟨u, k4, k5⟩, k6⟩ := h
  exact ⟨h1.trans k1, h2.trans k2, h3.trans k3, ⟨u, h4.trans k4, k5⟩, k6.mono hg⟩
 | mark =>
  obtain ⟨k1, k2, b, u, k3, k4, k5, k6⟩ := h
  obtain ⟨l1, l2⟩ := hb b (Ghost.blk_loc k3)
  exact ⟨h3.trans k1, h4.trans k2, b, u, h1.trans k3, h2.trans k4, l1.trans k5, fun o => (l2 o).trans (k6 o)⟩
 | loop l N r s =>
  obtain ⟨k1, k2, ⟨u, k3⟩, k4, ⟨T, k5, k6, k7⟩, k8⟩ := h
  obtain ⟨l1, l2⟩ := hb l (Ghost.blk_loc k4)
  exact ⟨h3.trans k1, h2.trans k2, ⟨u, h4.trans k3⟩, h1.trans k4, ⟨T, k5, fun t => (k6 t).mono hg, l1.trans k7⟩, fun o => (l2 o).trans (k8 o)⟩
 | box t x =>
  obtain ⟨k1, k2, k3, b, v, k4, k5, k6, k7⟩ := h
  obtain ⟨l1, l2⟩ := hb b (Ghost.blk_loc k4)
  exact ⟨h2.trans k1, h3.trans k2, h4.trans k3, b, v, h1.trans k4, k5.mono hg, l1.trans k6, fun o => (l2 o).trans (k7 o)⟩
 | fbox t x =>
  obtain ⟨k1, k2, k3, b, v, k4, k5, k6, k7⟩ := h
  obtain ⟨l1, l2⟩ := hb b (Ghost.blk_loc k4)
  exact ⟨h2.trans k1, h3.trans k2, h4.trans k3, b, v, h1.trans k4, k5.mono hg, l1.trans k6, fun o => (l2 o).trans (k7 o)⟩
 | row e size k =>
  obtain ⟨k1, u, cells, k3, k4, k5⟩ := h
  refine ⟨h1.trans k1, u, cells, h2.trans k3, k4, ?_⟩
  rcases k5 with ⟨k5, k6, k7⟩ | ⟨k5, k6, k7, A, k8, k9⟩
  ·have hbl : ∀ b, u.ownBlock = some b → w'.heap[b]? = w.heap[b]? ∧ ∀ o, g'.G b o = g.G b o := fun b hb' => hb b (by rw [Ghost.blk_row k1 k3, k6]; exact hb')
   refine .inl ⟨⟨k5.1, ?_⟩, h3.trans k6, fun b hb' o => ((hbl b hb').2 o).trans (k7 b hb' o)⟩
   rcases k5.2 with hz | ⟨g0, cap, cur, fz, rfl, r1, r2, r3⟩
   ·exact .inl hz
   ·exact .inr ⟨g0, cap, cur, fz, rfl, r1, (hbl g0 rfl).1.trans r2, r3⟩
  ·exact .inr ⟨h3.trans k5, k6, k7, A, k8, fun j v hv => ⟨(k9 j v hv).1, hg.G _ _ _ (k9 j v hv).2⟩⟩
 | mrow ver e size xs =>
  obtain ⟨k1, k2, k3, u, vs, k4, k5, k6, k7, k8, k9, k10⟩ := h
  have hbl : ∀ b, u.ownBlock = some b → w'.heap[b]? = w.heap[b]? ∧ ∀ o, g'.G b o = g.G b o := fun b hb' => hb b (by rw [Ghost.blk_mr k1 k2 k4]; exact hb')
  refine ⟨h1.trans k1, h2.trans k2, h3.trans k3, u, vs, h4.trans k4, k5, k6, fun i x v hx hv => (k7 i x v hx hv).mono hg, k8, ⟨k9.1, ?_⟩, fun b hb' o => ((hbl b hb').2 o).trans (k10 b hb' o)⟩
  rcases k9.2 with hz | ⟨g0, cap, cur, fz, rfl, r1, r2, r3⟩
  ·exact .inl hz
  ·exact .inr ⟨g0, cap, cur, fz, rfl, r1, (hbl g0 rfl).1.trans r2, r3⟩
theorem Sim.same_heap (h : Sim W0 g σ n w) (hh : w'.heap = w.heap) (h1 : w'.os = w.os) (h2 : w'.tape = w.tape) (h3 : w'.output = w.output) : Sim W0 g σ n w' := by
 have hc : ∀ a, w'.cell? a = w.cell? a := fun a => by simp [World.cell?, hh]
 exact ⟨⟨by rw [h1]; exact h.below.os, by rw [h2]; exact h.below.tape, by rw [h3]; exact h.below.output, by rw [hh]; exact h.below.size, by rw [hh]; exact h.below.block⟩,
  fun b o v hv => by rw [hc]; exact h.imm b o v hv, h.bound, fun id => (h.ents id).same g.le_refl rfl rfl rfl rfl fun b _ => ⟨by rw [hh], fun _ => rfl⟩, h.sep, fun i b hb => by rw [hh]; exact h.fresh i b hb⟩
theorem Sim.drew (h : Sim W0 g σ n w) : Sim W0 g σ n { w with drawn := w.drawn + 1 } := h.same_heap rfl rfl rfl rfl
theorem Sim.more (h : Sim W0 g σ n w) {n' : Nat} (hn : n ≤ n') : Sim W0 g σ n' w := { h with bound := fun id hid => h.bound id (Nat.le_trans hn hid) }
theorem Sim.lt (h : Sim W0 g σ n w) {i b : Nat} (hb : g.blk i = some b) : b < w.heap.size := (h.fresh i b hb).2
theorem Sim.change (h : Sim W0 g σ n w) {k : Nat} {E : Ent} (hn : k < n) (hle : g.le g') (hbelow : Below W0.heap.size W0 w') (himm : ∀ b o v, g'.G b o = some v → w'.cell? ⟨b, o, none⟩ = some v)
  (hsame : ∀ id, id ≠ k → g'.loc id = g.loc id ∧ g'.row id = g.row id ∧ g'.own id = g.own id ∧ g'.mr id = g.mr id)
  (hblk : ∀ id, id ≠ k → ∀ b, g.blk id = some b → (w'.heap[b]? = w.heap[b]? ∧ ∀ o, g'.G b o = g.G b o) ∧ g'.blk k ≠ some b)
  (hE : EntOK W0 g' w' k E) (hfresh : ∀ b, g'.blk k = some b → W0.heap.size ≤ b ∧ b < w'.heap.size) (hsz : w.heap.size ≤ w'.heap.size) : Sim W0 g' (upd σ k E) n w' := by
 have bs : ∀ id, id ≠ k → g'.blk id = g.blk id := fun id hid => by
  obtain ⟨h1, h2, h3, h4⟩ := hsame id hid
  simp [Ghost.blk, h1, h2, h3, h4]
 refine ⟨hbelow, himm, fun id hid => ?_, fun id => ?_, fun i j b hi hj => ?_, fun i b hi => ?_⟩
 ·rw [upd_ne _ _ _ _ (by omega)]; exact h.bound id hid
 ·by_cases hid : id = k
  ·subst hid; rw [upd_same]; exact hE
  ·rw [upd_ne _ _ _ _ hid]
   obtain ⟨h1, h2, h3, h4⟩ := hsame id hid
   exact (h.ents id).same hle h1 h2 h3 h4 fun b hb => (hblk id hid b hb).1
 ·by_cases h1 : i = k <;> by_cases h2 : j = k
  ·omega
  ·subst h1; rw [bs j h2] at hj; exact absurd hi (hblk j h2 b hj).2
  ·subst h2; rw [bs i h1] at hi; exact absurd hj (hblk i h1 b hi).2
  ·rw [bs i h1] at hi; rw [bs j h2] at hj; exact h.sep i j b hi hj
 ·by_cases h1 : i = k
  ·subst h1; exact hfresh b hi
  ·rw [bs i h1] at hi; exact ⟨(h.fresh i b hi).1, Nat.lt_of_lt_of_le (h.fresh i b hi).2 hsz⟩
end
def Ghost.has (g : Ghost) (j : Nat) : Prop := g.loc j ≠ none ∨ g.row j ≠ none ∨ g.mr j ≠ none
theorem Ghost.le.has {g g' : Ghost} (h : g.le g') {j : Nat} (hj : g.has j) : g'.has j := by
 rcases hj with hj | hj | hj
 ·obtain ⟨b, hb⟩ := Option.ne_none_iff_exists'.1 hj
  exact .inl (by rw [h.loc j b hb]; simp)
 ·obtain ⟨u, hu⟩ := Option.ne_none_iff_exists'.1 hj
  obtain ⟨u', h1, _⟩ := h.row j u hu
  exact .inr (.inl (by rw [h1]; simp))
 ·obtain ⟨u, hu⟩ := Option.ne_none_iff_exists'.1 hj
  obtain ⟨u', h1, _⟩ := h.mr j u hu
  exact .inr (.inr (by rw [h1]; simp))
theorem Ghost.le.row_ne {g g' : Ghost} (h : g.le g') {j : Nat} (hj : g.row j ≠ none) : g'.row j ≠ none := by
 obtain ⟨u, hu⟩ := Option.ne_none_iff_exists'.1 hj
 obtain ⟨u', h1, _⟩ := h.row j u hu
 rw [h1]; simp
theorem Sim.has {W0 : World} {g : Ghost} {σ : Nat → Ent} {n : Nat} {w : World} (h : Sim W0 g σ n w) {j : Nat} (hj : σ j ≠ .none) : g.has j := by
 have he := h.ents j
 cases hs : σ j with
 | none => exact absurd hs hj
 | box t x => rw [hs] at he; obtain ⟨_, _, _, b, v, h1, _⟩ := he; exact .inl (by rw [h1]; simp)
 | fbox t x => rw [hs] at he; obtain ⟨_, _, _, b, v, h1, _⟩ := he; exact .inl (by rw [h1]; simp)
 | row e size k => rw [hs] at he; obtain ⟨_, u, _, h1, _⟩ := he; exact .inr (.inl (by rw [h1]; simp))
 | mrow ver e size xs => rw [hs] at he; obtain ⟨_, _, _, u, _, h1, _⟩ := he; exact .inr (.inr (by rw [h1]; simp))
 | glob q x => rw [hs] at he; obtain ⟨_, _, _, ⟨u, h1, _⟩, _⟩ := he; exact .inr (.inr (by rw [h1]; simp))
 | mark => rw [hs] at he; obtain ⟨_, _, b, u, h1, _⟩ := he; exact .inl (by rw [h1]; simp)
 | loop l N r s => rw [hs] at he; obtain ⟨_, _, _, h1, _⟩ := he; exact .inl (by rw [h1]; simp)
theorem Sim.is_mark {W0 : World} {g : Ghost} {σ : Nat → Ent} {n : Nat} {w : World} (h : Sim W0 g σ n w) {j r : Nat} (h1 : g.loc j = some r) (h2 : g.row j ≠ none) : σ j = .mark := by
 have he := h.ents j
 cases hs : σ j with
 | none => rw [hs] at he; rw [he.1] at h1; cases h1
 | box t x => rw [hs] at he; exact absurd he.1 h2
 | fbox t x => rw [hs] at he; exact absurd he.1 h2
 | row e size k => rw [hs] at he; rw [he.1] at h1; cases h1
 | mrow ver e size xs => rw [hs] at he; rw [he.1] at h1; cases h1
 | glob q x => rw [hs] at he; rw [he.1] at h1; cases h1
 | mark => rfl
 | loop l N r s => rw [hs] at he; exact absurd he.2.1 h2
theorem Sim.mark_at {W0 : World} {g : Ghost} {σ : Nat → Ent} {n : Nat} {w : World} (h : Sim W0 g σ n w) {j r : Nat} (h1 : g.loc j = some r) (h2 : σ j = .mark) : w.heap[r]? = some (.deferred (some [])) ∧ ∀ o, g.G r o = none := by
 have he := h.ents j
 rw [h2] at he
 obtain ⟨_, _, b, u, k1, _, k2, k3⟩ := he
 rw [h1] at k1; cases k1
 exact ⟨k2, k3⟩

section
variable {W0 : World} {g : Ghost} {σ : Nat → Ent} {n : Nat} {w : World}
theorem Sim.G_lt (h : Sim W0 g σ n w) {b o : Nat} {v : Value} (hv : g.G b o = some v) : b < w.heap.size := World.block_lt_of_cell? w ⟨b, o, none⟩ (h.imm b o v hv)
theorem Sim.G_new (h : Sim W0 g σ n w) (o : Nat) : g.G w.heap.size o = none := by
 cases hv : g.G w.heap.size o with
 | none => rfl
 | some v => have := h.G_lt hv; omega
theorem Sim.blk_new (h : Sim W0 g σ n w) (i : Nat) : g.blk i ≠ some w.heap.size := fun hb => by have := h.lt hb; omega
theorem cell_kept {w w' : World} {b o : Nat} (h : w'.heap[b]? = w.heap[b]?) : w'.cell? ⟨b, o, none⟩ = w.cell? ⟨b, o, none⟩ := by
 unfold World.cell?
 simp only [h]
theorem Sim.alloc (h : Sim W0 g σ n w) (o : Obj) : Sim W0 g σ n (w.alloc o) := by
 have old : ∀ b, b < w.heap.size → (w.alloc o).heap[b]? = w.heap[b]? := fun b hb => heap_alloc_old w o b hb
 refine ⟨h.below.alloc h.below.size o, fun b o' v hv => ?_, h.bound, fun id => (h.ents id).same g.le_refl rfl rfl rfl rfl fun b hb => ⟨old b (h.lt hb), fun _ => rfl⟩, h.sep, fun i b hb => ⟨(h.fresh i b hb).1, by simp; have := (h.fresh i b hb).2; omega⟩⟩
 rw [cell_kept (old b (h.G_lt hv))]; exact h.imm b o' v hv
theorem Ghost.le_G {g : Ghost} {b : Nat} (hG : ∀ o, g.G b o = none) (f : Nat → Option Value) : g.le { g with G := upd g.G b f } :=
 ⟨fun b' o v hv => by
  by_cases hb : b' = b
  ·subst hb; rw [hG] at hv; cases hv
  ·show upd g.G b f b' o = some v
   rw [upd_ne _ _ _ _ hb]; exact hv, fun _ _ h => h, fun _ u h => ⟨u, h, .inl rfl⟩, fun _ u h => ⟨u, h, .inl rfl⟩⟩
theorem Ghost.le_loc {g : Ghost} {k : Nat} (hl : g.loc k = none) (b : Nat) : g.le { g with loc := upd g.loc k (some b) } :=
 ⟨fun _ _ _ h => h, fun id b' hb' => by
  have : id ≠ k := by rintro rfl; rw [hl] at hb'; cases hb'
  simpa [upd_ne _ _ _ _ this] using hb', fun _ u h => ⟨u, h, .inl rfl⟩, fun _ u h => ⟨u, h, .inl rfl⟩⟩
theorem Sim.addBox (h : Sim W0 g σ n w) {k b : Nat} {t : TypeId} {x : AV} {v : Value} (hk : σ k = .none) (hn : k < n) (hb : w.heap[b]? = some (.cells v.cells t (0, 0))) (hr : Rep g x v)
  (hW : W0.heap.size ≤ b) (hG : ∀ o, g.G b o = none) (hfree : ∀ i, g.blk i ≠ some b) :
  g.le { g with loc := upd g.loc k (some b) } ∧ Sim W0 { g with loc := upd g.loc k (some b) } (upd σ k (.box t x)) n w := by
 obtain ⟨hl, hrw, ho, hm⟩ := h.free k hk
 have hle := Ghost.le_loc hl b
 have hbk : Ghost.blk { g with loc := upd g.loc k (some b) } k = some b := by simp [Ghost.blk, upd]
 refine ⟨hle, h.change hn hle h.below h.imm (fun id hid => ⟨by simp [upd_ne _ _ _ _ hid], rfl, rfl, rfl⟩) (fun id hid b' hb' => ⟨⟨rfl, fun _ => rfl⟩, ?_⟩) ?_ (fun b' hb' => ?_) (Nat.le_refl _)⟩
 ·rw [hbk]; intro e; cases e; exact hfree id hb'
 ·exact ⟨hrw, ho, hm, b, v, by simp [upd_same], hr.mono hle, hb, hG⟩
 ·rw [hbk] at hb'; cases hb'; exact ⟨hW, (Array.getElem?_eq_some_iff.1 hb).1⟩
theorem Sim.newBox (h : Sim W0 g σ n w) {k : Nat} {t : TypeId} {x : AV} {v : Value} (hk : σ k = .none) (hn : k < n) (hr : Rep g x v) :
  ∃ g', g.le g' ∧ Sim W0 g' (upd σ k (.box t x)) n (w.alloc (.cells v.cells t)) ∧ g'.loc k = some w.heap.size := by
 have h1 := (h.alloc (.cells v.cells t)).addBox (b := w.heap.size) hk hn (heap_alloc_new w _) hr h.below.size h.G_new h.blk_new
 exact ⟨_, h1.1, h1.2, by simp [upd_same]⟩
theorem Sim.addRow (h : Sim W0 g σ n w) {k : Nat} {e : TypeId} {size m : Nat} {u : Value} {cells : List Value} (hk : σ k = .none) (hn : k < n) (hown : ownsR w W0.heap.size e size u m cells) (hlen : slen u = m)
  (hG : ∀ b, u.ownBlock = some b → ∀ o, g.G b o = none) (hfree : ∀ b, u.ownBlock = some b → ∀ i, g.blk i ≠ some b) :
  ∃ g', g.le g' ∧ Sim W0 g' (upd σ k (.row e size m)) n w ∧ g'.row k = some u ∧ (∀ b, u.ownBlock = some b → ∀ o, g'.G b o = cells[o]?) := by
 obtain ⟨hl, hrw, ho, hm⟩ := h.free k hk
 obtain ⟨F, hF, hFo⟩ : ∃ F : Nat → Nat → Option Value, (∀ b, u.ownBlock = some b → F b = fun o => cells[o]?) ∧ (∀ b, u.ownBlock ≠ some b → F b = g.G b) := by
  refine ⟨fun b => if u.ownBlock = some b then fun o => cells[o]? else g.G b, fun b hb => by simp [hb], fun b hb => by simp [hb]⟩
 have hcell : ∀ b, u.ownBlock = some b → ∀ o v, cells[o]? = some v → w.cell? ⟨b, o, none⟩ = some v := fun b hb o v hv => by
  exact hown.cells hb o v hv
 let g' : Ghost := { g with G := F, row := upd g.row k (some u), own := upd g.own k u.ownBlock }
 have hle : g.le g' := by
  refine ⟨fun b o v hv => ?_, fun _ _ h => h, fun id u' hu' => ?_, fun _ u h => ⟨u, h, .inl rfl⟩⟩
  ·have hne : u.ownBlock ≠ some b := fun hb => by rw [hG b hb o] at hv; cases hv
   show F b o = some v
   rw [hFo b hne]; exact hv
  ·have hne : id ≠ k := by rintro rfl; rw [hrw] at hu'; cases hu'
   exact ⟨u', by show upd g.row k (some u) id = some u'; rw [upd_ne _ _ _ _ hne]; exact hu', .inl rfl⟩
 have hbk : g'.blk k = u.ownBlock := by simp [Ghost.blk, g', hl, upd]
 refine ⟨g', hle, h.change hn hle h.below (fun b o v hv => ?_) (fun id hid => ⟨rfl, by simp [g', upd_ne _ _ _ _ hid], by simp [g', upd_ne _ _ _ _ hid], rfl⟩) (fun id hid b hb => ⟨⟨rfl, fun o => ?_⟩, ?_⟩) ?_ (fun b hb => ?_) (Nat.le_refl _),
  by simp [g', upd_same], fun b hb o => by show F b o = _; rw [hF b hb]⟩
 ·have hv' : F b o = some v := hv
  by_cases hb : u.ownBlock = some b
  ·rw [hF b hb] at hv'; exact hcell b hb o v hv'
  ·rw [hFo b hb] at hv'; exact h.imm b o v hv'
 ·show F b o = _
  rw [hFo b fun e => hfree b e id hb]
 ·rw [hbk]; exact fun e => hfree b e id hb
 ·exact ⟨hl, u, cells, by simp [g', upd_same], hlen, .inl ⟨hown, by simp [g', upd_same], fun b hb o => by show F b o = _; rw [hF b hb]⟩⟩
 ·rw [hbk] at hb; exact hown.lt b hb
theorem Sim.newRow (h : Sim W0 g σ n w) {k : Nat} {e : TypeId} {size m : Nat} {cells : List Value} (hk : σ k = .none) (hn : k < n) (cur : Array Value) (cap : Nat) (hlen : cells.length = m * size) (hmc : m ≤ cap) (hcm : cap ≤ maxLen)
  (hcur : cur.size = cap * size) (htake : cur.toList.take (m * size) = cells) :
  ∃ g', g.le g' ∧ Sim W0 g' (upd σ k (.row e size m)) n (w.alloc (.cells cur e)) ∧ g'.row k = some (.slice (some ⟨w.heap.size, 0, none⟩) m cap) ∧ (∀ o, g'.G w.heap.size o = cells[o]?) := by
 have hown : ownsR (w.alloc (.cells cur e)) W0.heap.size e size (.slice (some ⟨w.heap.size, 0, none⟩) m cap) m cells :=
  ⟨hlen, .inr ⟨w.heap.size, cap, cur, (0, 0), rfl, h.below.size, heap_alloc_new w _, noFz_zero _, hmc, hcm, hcur, htake⟩⟩
 obtain ⟨g', h1, h2, h3, h4⟩ := (h.alloc (.cells cur e)).addRow hk hn hown rfl (fun b hb o => by simp [Value.ownBlock] at hb; subst hb; exact h.G_new o) (fun b hb i => by simp [Value.ownBlock] at hb; subst hb; exact h.blk_new i)
 exact ⟨g', h1, h2, h3, h4 _ rfl⟩
theorem Sim.addClip (h : Sim W0 g σ n w) {k : Nat} {e : TypeId} {size m : Nat} {A : Addr} {cells : List Value} (hk : σ k = .none) (hn : k < n) (hlen : cells.length = m * size) (hm : m ≤ maxLen) (hcell : ∀ (j : Nat) (v : Value), cells[j]? = some v → A.spot = none ∧ g.G A.block (A.off + j) = some v) :
  ∃ g', g.le g' ∧ Sim W0 g' (upd σ k (.row e size m)) n w ∧ g'.row k = some (.slice (some A) m m) := by
 obtain ⟨hl, hrw, ho, hmr⟩ := h.free k hk
 let g' : Ghost := { g with row := upd g.row k (some (.slice (some A) m m)) }
 have hle : g.le g' := ⟨fun _ _ _ h => h, fun _ _ h => h, fun id u' hu' => by
  have hne : id ≠ k := by rintro rfl; rw [hrw] at hu'; cases hu'
  exact ⟨u', by show upd g.row k _ id = some u'; rw [upd_ne _ _ _ _ hne]; exact hu', .inl rfl⟩, fun _ u h => ⟨u, h, .inl rfl⟩⟩
 have hbk : g'.blk k = none := by simp [Ghost.blk, g', hl, upd, ho]
 exact ⟨g', hle, h.change hn hle h.below h.imm (fun id hid => ⟨rfl, by simp [g', upd_ne _ _ _ _ hid], rfl, rfl⟩) (fun id hid b hb => ⟨⟨rfl, fun _ => rfl⟩, by rw [hbk]; simp⟩)
  ⟨hl, _, cells, by simp [g', upd_same], rfl, .inr ⟨ho, hlen, hm, A, rfl, hcell⟩⟩ (fun b hb => by rw [hbk] at hb; cases hb) (Nat.le_refl _), by simp [g', upd_same]⟩
theorem Sim.store (h : Sim W0 g σ n w) {id b : Nat} {t : TypeId} {x x' : AV} {v' : Value} (hx : σ id = .box t x) (hb : g.loc id = some b) (hr : Rep g x' v') :
  Sim W0 g (upd σ id (.box t x')) n (w.setRow b v'.cells) := by
 have hE := h.ents id
 rw [hx] at hE
 obtain ⟨hrow, ho, hm, b0, v, hb0, hrep, hheap, hG⟩ := hE
 have : b0 = b := by rw [hb] at hb0; injection hb0 with e; exact e.symm
 subst this
 have hblk : g.blk id = some b0 := Ghost.blk_loc hb
 have hW := (h.fresh id b0 hblk).1
 have hidn : id < n := by
  rcases Nat.lt_or_ge id n with h' | h'
  ·exact h'
  ·have := h.bound id h'; rw [hx] at this; cases this
 have other : ∀ k, k ≠ b0 → (w.setRow b0 v'.cells).heap[k]? = w.heap[k]? := fun k hk => setRow_other w b0 k _ hk
 have hsz : (w.setRow b0 v'.cells).heap.size = w.heap.size := by simp [World.setRow]
 refine h.change hidn g.le_refl ⟨h.below.os, h.below.tape, h.below.output, by rw [hsz]; exact h.below.size, fun k hk => by rw [other k (by omega)]; exact h.below.block k hk⟩ (fun b' o u hu => ?_) (fun _ _ => ⟨rfl, rfl, rfl, rfl⟩)
  (fun i hi b' hb' => ?_) ⟨hrow, ho, hm, b0, v', hb, hr, setRow_heap w b0 _ _ _ _ hheap, hG⟩ (fun b' hb' => by rw [hsz]; exact h.fresh id b' hb') (by rw [hsz]; exact Nat.le_refl _)
 ·have hne : b' ≠ b0 := by rintro rfl; rw [hG] at hu; cases hu
  rw [cell_kept (other b' hne)]; exact h.imm b' o u hu
 ·have hne : b' ≠ b0 := fun e => hi (h.sep i id b' hb' (by rw [hblk, e]))
  exact ⟨⟨other b' hne, fun _ => rfl⟩, by rw [hblk]; intro e; cases e; exact hne rfl⟩
theorem Sim.freeze (h : Sim W0 g σ n w) {id b : Nat} {t : TypeId} {x : AV} (hx : σ id = .box t x) (hb : g.loc id = some b) :
  ∃ g', g.le g' ∧ Sim W0 g' (upd σ id (.fbox t x)) n w ∧ (∃ v, Rep g' x v ∧ ∀ (o : Nat), g'.G b o = v.cells[o]?) := by
 have hE := h.ents id
 rw [hx] at hE
 obtain ⟨hrow, ho, hm, b0, v, hb0, hrep, hheap, hG⟩ := hE
 have : b0 = b := by rw [hb] at hb0; injection hb0 with e; exact e.symm
 subst this
 have hblk : g.blk id = some b0 := Ghost.blk_loc hb
 have hidn : id < n := by
  rcases Nat.lt_or_ge id n with h' | h'
  ·exact h'
  ·have := h.bound id h'; rw [hx] at this; cases this
 let g' : Ghost := { g with G := upd g.G b0 fun o => v.cells[o]? }
 have hle : g.le g' := Ghost.le_G hG _
 refine ⟨g', hle, h.change hidn hle h.below (fun b' o u hu => ?_) (fun _ _ => ⟨rfl, rfl, rfl, rfl⟩) (fun i hi b' hb' => ?_) ⟨hrow, ho, hm, b0, v, hb, hrep.mono hle, hheap, fun o => by simp [g', upd_same]⟩ (fun b' hb' => h.fresh id b' hb') (Nat.le_refl _), v, hrep.mono hle, fun o => by simp [g', upd_same]⟩
 ·by_cases hne : b' = b0
  ·subst hne
   have hu' : upd g.G b' (fun o => v.cells[o]?) b' o = some u := hu
   rw [upd_same] at hu'
   rw [cell_of_row w b' o _ _ _ hheap]; exact hu'
  ·have hu' : upd g.G b0 (fun o => v.cells[o]?) b' o = some u := hu
   rw [upd_ne _ _ _ _ hne] at hu'
   exact h.imm b' o u hu'
 ·have hne : b' ≠ b0 := fun e => hi (h.sep i id b' hb' (by rw [hblk, e]))
  refine ⟨⟨rfl, fun o => ?_⟩, ?_⟩
  ·show upd g.G b0 _ b' o = g.G b' o
   rw [upd_ne _ _ _ _ hne]
  ·show g.blk id ≠ some b'
   rw [hblk]; intro e; cases e; exact hne rfl
theorem Sim.grow (h : Sim W0 g σ n w) {id : Nat} {e : TypeId} {size k m : Nat} (hx : σ id = .row e size k) {u u' : Value} {cells news : List Value} {w' : World}
  (hu : g.row id = some u) (hcells : ∀ b, g.own id = some b → ∀ (o : Nat), g.G b o = cells[o]?) (hown' : ownsR w' W0.heap.size e size u' (k + m) (cells ++ news)) (hlen : slen u = k) (hlen' : slen u' = k + m)
  (h1 : w'.os = w.os) (h2 : w'.tape = w.tape) (h3 : w'.output = w.output) (hsz : w.heap.size ≤ w'.heap.size)
  (hw : (u' = u ∧ m = 0 ∧ g.own id = u.ownBlock ∧ w'.heap = w.heap) ∨ (0 < m ∧ u'.ownBlock = u.ownBlock ∧ g.own id = u.ownBlock ∧ ∀ j, u.ownBlock ≠ some j → j < w.heap.size → w'.heap[j]? = w.heap[j]?) ∨
   (0 < m ∧ u'.ownBlock = some w.heap.size ∧ ∀ j, j < w.heap.size → w'.heap[j]? = w.heap[j]?)) :
  ∃ g', g.le g' ∧ Sim W0 g' (upd σ id (.row e size (k + m))) n w' ∧ g'.row id = some u' ∧ (∀ b, u'.ownBlock = some b → ∀ (o : Nat), g'.G b o = (cells ++ news)[o]?) := by
 have hE := h.ents id
 rw [hx] at hE
 obtain ⟨hl, u0, cells0, hu0, hlen0, hdis⟩ := hE
 have : u0 = u := by rw [hu] at hu0; injection hu0 with e; exact e.symm
 subst this
 have hblk : g.blk id = g.own id := Ghost.blk_row hl hu
 have hidn : id < n := by
  rcases Nat.lt_or_ge id n with h' | h'
  ·exact h'
  ·have := h.bound id h'; rw [hx] at this; cases this
 have hheap : ∀ j, g.own id ≠ some j → j < w.heap.size → w'.heap[j]? = w.heap[j]? := by
  intro j hj hlt
  rcases hw with ⟨_, _, _, h⟩ | ⟨_, _, h0, h⟩ | ⟨_, _, h⟩
  ·rw [h]
  ·exact h j (by rw [← h0]; exact hj) hlt
  ·exact h j hlt
 have same_u : u'.ownBlock = g.own id ∨ u'.ownBlock = some w.heap.size := by
  rcases hw with ⟨rfl, _, h, _⟩ | ⟨_, h, h0, _⟩ | ⟨_, h, _⟩
  ·exact .inl h.symm
  ·exact .inl (h.trans h0.symm)
  ·exact .inr h
 have hcur : ∀ b, g.own id = some b → ∀ o v, cells[o]? = some v → w'.cell? ⟨b, o, none⟩ = some v := by
  intro b hb o v hv
  rcases hw with ⟨_, _, _, hh⟩ | ⟨_, he, h0, _⟩ | ⟨_, _, hh⟩
  ·have := h.imm b o v (by rw [hcells b hb]; exact hv)
   simpa [World.cell?, hh] using this
  ·exact hown'.cells (he.trans (h0.symm.trans hb)) o v (by rw [List.getElem?_append_left (List.getElem?_eq_some_iff.1 hv).1]; exact hv)
  ·have hblt : b < w.heap.size := (h.fresh id b (hblk.trans hb)).2
   rw [cell_kept (hh b hblt)]
   exact h.imm b o v (by rw [hcells b hb]; exact hv)
 let F : Nat → Nat → Option Value := fun b => if u'.ownBlock = some b then fun o => (cells ++ news)[o]? else g.G b
 have hF : ∀ b, u'.ownBlock = some b → F b = fun o => (cells ++ news)[o]? := fun b hb => by simp [F, hb]
 have hFo : ∀ b, u'.ownBlock ≠ some b → F b = g.G b := fun b hb => by simp [F, hb]
 let g' : Ghost := { g with G := F, row := upd g.row id (some u'), own := upd g.own id u'.ownBlock }
 have hle : g.le g' := by
  refine ⟨fun b o v hv => ?_, fun _ _ h => h, fun i v hv => ?_, fun _ u h => ⟨u, h, .inl rfl⟩⟩
  ·show F b o = some v
   by_cases hb : u'.ownBlock = some b
   ·rw [hF b hb]
    rcases same_u with he | he
    ·have hv' : cells[o]? = some v := by rw [← hcells b (he.symm.trans hb)]; exact hv
     show (cells ++ news)[o]? = some v
     rw [List.getElem?_append_left (List.getElem?_eq_some_iff.1 hv').1]; exact hv'
    ·have : b = w.heap.size := by rw [hb] at he; injection he
     subst this
     rw [h.G_new] at hv; cases hv
   ·rw [hFo b hb]; exact hv
  ·by_cases hi : i = id
   ·subst hi
    have : v = u0 := by rw [hu] at hv; injection hv with e; exact e.symm
    subst this
    refine ⟨u', by show upd g.row i (some u') i = _; rw [upd_same], ?_⟩
    rcases hw with ⟨rfl, _⟩ | ⟨hm, _⟩ | ⟨hm, _⟩
    ·exact .inl rfl
    ·exact .inr (by omega)
    ·exact .inr (by omega)
   ·exact ⟨v, by show upd g.row id (some u') i = _; rw [upd_ne _ _ _ _ hi]; exact hv, .inl rfl⟩
 have hbk : g'.blk id = u'.ownBlock := by simp [Ghost.blk, g', hl, upd]
 have ne_u : ∀ i, i ≠ id → ∀ b, g.blk i = some b → g.own id ≠ some b ∧ u'.ownBlock ≠ some b ∧ b < w.heap.size := by
  intro i hi b hb
  have hlt := (h.fresh i b hb).2
  have h0 : g.own id ≠ some b := fun e => hi (h.sep i id b hb (hblk.trans e))
  refine ⟨h0, fun e => ?_, hlt⟩
  rcases same_u with he | he
  ·exact h0 (he ▸ e)
  ·rw [e] at he; injection he with he; omega
 have hW : ∀ b, g.own id = some b → W0.heap.size ≤ b := fun b hb => (h.fresh id b (hblk.trans hb)).1
 refine ⟨g', hle, h.change hidn hle ⟨h1.trans h.below.os, h2.trans h.below.tape, h3.trans h.below.output, Nat.le_trans h.below.size hsz, fun j hj => ?_⟩ (fun b o v hv => ?_) (fun i hi => ⟨rfl, by simp [g', upd_ne _ _ _ _ hi], by simp [g', upd_ne _ _ _ _ hi], rfl⟩)
  (fun i hi b hb => ?_) ?_ (fun b hb => ?_) hsz, by simp [g', upd_same], fun b hb o => by show F b o = _; rw [hF b hb]⟩
 ·rw [hheap j (fun e => by have := hW j e; omega) (Nat.lt_of_lt_of_le hj h.below.size)]
  exact h.below.block j hj
 ·have hv' : F b o = some v := hv
  by_cases hb : u'.ownBlock = some b
  ·rw [hF b hb] at hv'
   exact hown'.cells hb o v hv'
  ·rw [hFo b hb] at hv'
   by_cases hb0 : g.own id = some b
   ·exact hcur b hb0 o v (by rw [← hcells b hb0]; exact hv')
   ·rw [cell_kept (hheap b hb0 (h.G_lt hv'))]
    exact h.imm b o v hv'
 ·obtain ⟨n1, n2, n3⟩ := ne_u i hi b hb
  exact ⟨⟨hheap b n1 n3, fun o => by show F b o = _; rw [hFo b n2]⟩, by rw [hbk]; exact n2⟩
 ·exact ⟨hl, u', cells ++ news, by simp [g', upd_same], hlen', .inl ⟨hown', by simp [g', upd_same], fun b hb o => by show F b o = _; rw [hF b hb]⟩⟩
 ·rw [hbk] at hb; exact hown'.lt b hb
theorem Sim.addM (h : Sim W0 g σ n w) {k : Nat} {e : TypeId} {size : Nat} {u : Value} {xs : List AV} {vs : List Value} (hk : σ k = .none) (hn : k < n) (hown : ownsR w W0.heap.size e size u xs.length (flat vs)) (hlen : slen u = xs.length)
  (hvl : vs.length = xs.length) (hvr : ∀ (i : Nat) (x : AV) (v : Value), xs[i]? = some x → vs[i]? = some v → Rep g x v) (hvs : ∀ v ∈ vs, v.cells.size = size)
  (hG : ∀ b, u.ownBlock = some b → ∀ o, g.G b o = none) (hfree : ∀ b, u.ownBlock = some b → ∀ i, g.blk i ≠ some b) :
  g.le { g with mr := upd g.mr k (some (0, u)) } ∧ Sim W0 { g with mr := upd g.mr k (some (0, u)) } (upd σ k (.mrow 0 e size xs)) n w := by
 obtain ⟨hl, hrw, ho, hm⟩ := h.free k hk
 have hle : g.le { g with mr := upd g.mr k (some (0, u)) } := ⟨fun _ _ _ h => h, fun _ _ h => h, fun _ u h => ⟨u, h, .inl rfl⟩, fun id u' hu' => by
  have hne : id ≠ k := by rintro rfl; rw [hm] at hu'; cases hu'
  exact ⟨u', by show upd g.mr k _ id = some u'; rw [upd_ne _ _ _ _ hne]; exact hu', .inl rfl⟩⟩
 have hbk : Ghost.blk { g with mr := upd g.mr k (some (0, u)) } k = u.ownBlock := by simp [Ghost.blk, hl, hrw, upd]
 refine ⟨hle, h.change hn hle h.below h.imm (fun id hid => ⟨rfl, rfl, rfl, by simp [upd_ne _ _ _ _ hid]⟩) (fun id hid b hb => ⟨⟨rfl, fun _ => rfl⟩, by rw [hbk]; exact fun e => hfree b e id hb⟩)
  ⟨hl, hrw, ho, u, vs, by simp [upd_same], hlen, hvl, fun i x v hx hv => (hvr i x v hx hv).mono hle, hvs, hown, hG⟩ (fun b hb => by rw [hbk] at hb; exact hown.lt b hb) (Nat.le_refl _)⟩
theorem Sim.turnM (h : Sim W0 g σ n w) {id ver ver' : Nat} {e : TypeId} {size : Nat} {xs xs' : List AV} (hx : σ id = .mrow ver e size xs) {u u' : Value} {vs' : List Value} {w' : World}
  (hu : g.mr id = some (ver, u)) (hver : (ver' = ver ∧ u' = u) ∨ ver < ver') (hown' : ownsR w' W0.heap.size e size u' xs'.length (flat vs')) (hlen' : slen u' = xs'.length)
  (hvl : vs'.length = xs'.length) (hvr : ∀ (i : Nat) (x : AV) (v : Value), xs'[i]? = some x → vs'[i]? = some v → Rep g x v) (hvs : ∀ v ∈ vs', v.cells.size = size)
  (h1 : w'.os = w.os) (h2 : w'.tape = w.tape) (h3 : w'.output = w.output) (hsz : w.heap.size ≤ w'.heap.size)
  (hw : u'.ownBlock = u.ownBlock ∨ u'.ownBlock = some w.heap.size) (hheap : ∀ j, u.ownBlock ≠ some j → j < w.heap.size → w'.heap[j]? = w.heap[j]?) :
  ∃ g', g.le g' ∧ Sim W0 g' (upd σ id (.mrow ver' e size xs')) n w' ∧ g'.mr id = some (ver', u') ∧ g'.G = g.G := by
 have hE := h.ents id
 rw [hx] at hE
 obtain ⟨hl, hrw, ho, u0, vs, hu0, hlen0, hvl0, hvr0, hvs0, hown0, hG0⟩ := hE
 have : u0 = u := by rw [hu] at hu0; injection hu0 with e; injection e with _ e; exact e.symm
 subst this
 have hblk : g.blk id = u0.ownBlock := Ghost.blk_mr hl hrw hu
 have hidn : id < n := by
  rcases Nat.lt_or_ge id n with h' | h'
  ·exact h'
  ·have := h.bound id h'; rw [hx] at this; cases this
 let g' : Ghost := { g with mr := upd g.mr id (some (ver', u')) }
 have hle : g.le g' := ⟨fun _ _ _ h => h, fun _ _ h => h, fun _ u h => ⟨u, h, .inl rfl⟩, fun i x hx' => by
  by_cases hi : i = id
  ·subst hi
   rw [hu] at hx'
   injection hx' with hx'
   subst hx'
   refine ⟨(ver', u'), by show upd g.mr i _ i = _; rw [upd_same], ?_⟩
   rcases hver with ⟨rfl, rfl⟩ | hver
   ·exact .inl rfl
   ·exact .inr hver
  ·exact ⟨x, by show upd g.mr id _ i = _; rw [upd_ne _ _ _ _ hi]; exact hx', .inl rfl⟩⟩
 have hbk : g'.blk id = u'.ownBlock := by simp [Ghost.blk, g', hl, hrw, upd]
 have hW : ∀ b, u0.ownBlock = some b → W0.heap.size ≤ b := fun b hb => (h.fresh id b (hblk.trans hb)).1
 have ne_u : ∀ i, i ≠ id → ∀ b, g.blk i = some b → u0.ownBlock ≠ some b ∧ u'.ownBlock ≠ some b ∧ b < w.heap.size := by
  intro i hi b hb
  have hlt := (h.fresh i b hb).2
  have h0 : u0.ownBlock ≠ some b := fun e => hi (h.sep i id b hb (hblk.trans e))
  refine ⟨h0, fun e => ?_, hlt⟩
  rcases hw with he | he
  ·exact h0 (he ▸ e)
  ·rw [e] at he; injection he with he; omega
 refine ⟨g', hle, h.change hidn hle ⟨h1.trans h.below.os, h2.trans h.below.tape, h3.trans h.below.output, Nat.le_trans h.below.size hsz, fun j hj => ?_⟩ (fun b o v hv => ?_) (fun i hi => ⟨rfl, rfl, rfl, by simp [g', upd_ne _ _ _ _ hi]⟩)
  (fun i hi b hb => ?_) ?_ (fun b hb => ?_) hsz, by simp [g', upd_same], rfl⟩
 ·rw [hheap j (fun e => by have := hW j e; omega) (Nat.lt_of_lt_of_le hj h.below.size)]
  exact h.below.block j hj
 ·have hv' : g.G b o = some v := hv
  have hne : u0.ownBlock ≠ some b := fun e => by rw [hG0 b e] at hv'; cases hv'
  rw [cell_kept (hheap b hne (h.G_lt hv'))]
  exact h.imm b o v hv'
 ·obtain ⟨n1, n2, n3⟩ := ne_u i hi b hb
  exact ⟨⟨hheap b n1 n3, fun o => rfl⟩, by rw [hbk]; exact n2⟩
 ·refine ⟨hl, hrw, ho, u', vs', by simp [g', upd_same], hlen', hvl, fun i x v hx hv => (hvr i x v hx hv).mono hle, hvs, hown', fun b hb o => ?_⟩
  rcases hw with he | he
  ·exact hG0 b (he ▸ hb) o
  ·rw [hb] at he; injection he with he; subst he; exact h.G_new o
 ·rw [hbk] at hb; exact hown'.lt b hb
theorem Sim.freezeM (h : Sim W0 g σ n w) {id ver : Nat} {e : TypeId} {size : Nat} {xs : List AV} (hx : σ id = .mrow ver e size xs) :
  ∃ g', g.le g' ∧ Sim W0 g' (upd σ id (.row e size xs.length)) n w ∧ ∃ u vs, g.mr id = some (ver, u) ∧ g'.row id = some u ∧ slen u = xs.length ∧ vs.length = xs.length ∧ (∀ (i : Nat) (x : AV) (v : Value), xs[i]? = some x → vs[i]? = some v → Rep g x v) ∧
   (∀ v ∈ vs, v.cells.size = size) ∧ ownsR w W0.heap.size e size u xs.length (flat vs) ∧ (∀ b, u.ownBlock = some b → ∀ (o : Nat), g'.G b o = (flat vs)[o]?) := by
 have hE := h.ents id
 rw [hx] at hE
 obtain ⟨hl, hrw, ho, u, vs, hu, hlen, hvl, hvr, hvs, hown, hG⟩ := hE
 have hblk : g.blk id = u.ownBlock := Ghost.blk_mr hl hrw hu
 have hidn : id < n := by
  rcases Nat.lt_or_ge id n with h' | h'
  ·exact h'
  ·have := h.bound id h'; rw [hx] at this; cases this
 let F : Nat → Nat → Option Value := fun b => if u.ownBlock = some b then fun o => (flat vs)[o]? else g.G b
 have hF : ∀ b, u.ownBlock = some b → F b = fun o => (flat vs)[o]? := fun b hb => by simp [F, hb]
 have hFo : ∀ b, u.ownBlock ≠ some b → F b = g.G b := fun b hb => by simp [F, hb]
 let g' : Ghost := { g with G := F, row := upd g.row id (some u), own := upd g.own id u.ownBlock }
 have hle : g.le g' := by
  refine ⟨fun b o v hv => ?_, fun _ _ h => h, fun i u' hu' => ?_, fun _ u h => ⟨u, h, .inl rfl⟩⟩
  ·have hne : u.ownBlock ≠ some b := fun hb => by rw [hG b hb o] at hv; cases hv
   show F b o = some v
   rw [hFo b hne]; exact hv
  ·have hne : i ≠ id := by rintro rfl; rw [hrw] at hu'; cases hu'
   exact ⟨u', by show upd g.row id (some u) i = some u'; rw [upd_ne _ _ _ _ hne]; exact hu', .inl rfl⟩
 have hbk : g'.blk id = u.ownBlock := by simp [Ghost.blk, g', hl, upd]
 refine ⟨g', hle, h.change hidn hle h.below (fun b o v hv => ?_) (fun i hi => ⟨rfl, by simp [g', upd_ne _ _ _ _ hi], by simp [g', upd_ne _ _ _ _ hi], rfl⟩) (fun i hi b hb => ?_) ?_ (fun b hb => ?_) (Nat.le_refl _),
  u, vs, hu, by simp [g', upd_same], hlen, hvl, hvr, hvs, hown, fun b hb o => by show F b o = _; rw [hF b hb]⟩
 ·have hv' : F b o = some v := hv
  by_cases hb : u.ownBlock = some b
  ·rw [hF b hb] at hv'
   exact hown.cells hb o v hv'
  ·rw [hFo b hb] at hv'; exact h.imm b o v hv'
 ·have hne : u.ownBlock ≠ some b := fun e => hi (h.sep i id b hb (hblk.trans e))
  exact ⟨⟨rfl, fun o => by show F b o = _; rw [hFo b hne]⟩, by rw [hbk]; exact hne⟩
 ·exact ⟨hl, u, flat vs, by simp [g', upd_same], hlen, .inl ⟨hown, by simp [g', upd_same], fun b hb o => by show F b o = _; rw [hF b hb]⟩⟩
 ·rw [hbk] at hb; exact hown.lt b hb
end

abbrev Slots := Nat → AV
abbrev Foot := List (Nat × Ent)
structure Cfg where
 s : Slots
 σ : Nat → Ent
 n : Nat
def wr (σ : Nat → Ent) (post : Foot) : Nat → Ent := post.foldl (fun σ p => upd σ p.1 p.2) σ
theorem wr_nil (σ : Nat → Ent) : wr σ [] = σ := rfl
theorem wr_cons (σ : Nat → Ent) (p : Nat × Ent) (q : Foot) : wr σ (p :: q) = wr (upd σ p.1 p.2) q := rfl
theorem wr_other (post : Foot) : ∀ (σ : Nat → Ent) (i : Nat), (∀ q ∈ post, q.1 ≠ i) → wr σ post i = σ i := by
 induction post with
 | nil => intro σ i _; rfl
 | cons p r ih =>
  intro σ i h
  rw [wr_cons, ih _ _ fun q hq => h q (List.mem_cons_of_mem _ hq), upd_ne _ _ _ _ (Ne.symm (h p (List.mem_cons_self ..)))]
theorem wr_upd_comm (post : Foot) : ∀ (σ : Nat → Ent) (i : Nat) (E : Ent), (∀ q ∈ post, q.1 ≠ i) → wr (upd σ i E) post = upd (wr σ post) i E := by
 induction post with
 | nil => intro σ i E _; rfl
 | cons p r ih =>
  intro σ i E h
  rw [wr_cons, wr_cons, upd_comm _ _ _ _ _ (Ne.symm (h p (List.mem_cons_self ..))), ih _ _ _ fun q hq => h q (List.mem_cons_of_mem _ hq)]
theorem wr_comm (p q : Foot) : ∀ σ : Nat → Ent, (∀ x ∈ p, ∀ y ∈ q, x.1 ≠ y.1) → wr (wr σ p) q = wr (wr σ q) p := by
 induction p with
 | nil => intro σ _; rfl
 | cons x r ih =>
  intro σ h
  rw [wr_cons, wr_cons, ih _ fun y hy => h y (List.mem_cons_of_mem _ hy), wr_upd_comm q _ _ _ fun y hy => Ne.symm (h x (List.mem_cons_self ..) y hy)]
def sput (s : Slots) (d : Option Tmp) (v : AV) : Slots :=
 match d with
 | some d => upd s d v
 | none => s
def aeval (s : Slots) : Operand → AV
 | .tmp t => s t
 | .const (.slice none 0 0) => .nils
 | .const v => .lit v
 | .func f => .fn f []
 | .global g => .lit (.pointer (some ⟨g, 0, none⟩))
def opndOK : Operand → Bool
 | .const (.agg _) | .const (.tuple _) => false
 | _ => true
structure SimA (W0 : World) (g : Ghost) (N : Nat) (c : Cfg) (a : Act) (w : World) : Prop where
 sim : Sim W0 g c.σ c.n w
 size : a.tmps.size = N
 slots : ∀ t, Rep g (c.s t) (a.tmps.getD t undef)
theorem SimA.eval {W0 : World} {g : Ghost} {N : Nat} {c : Cfg} {a : Act} {w : World} (h : SimA W0 g N c a w) {x : Operand} (hx : opndOK x = true) : Rep g (aeval c.s x) (a.eval x) := by
 cases x with
 | tmp t => exact h.slots t
 | const v =>
  cases v with
  | slice A n c' =>
   cases A with
   | some ad => exact .lit _ rfl
   | none =>
    cases n with
    | zero => cases c' with
     | zero => exact .nils
     | succ => exact .lit _ rfl
    | succ => exact .lit _ rfl
  | agg => simp [opndOK] at hx
  | tuple => simp [opndOK] at hx
  | _ => exact .lit _ rfl
 | func f => exact .fn f [] [] rfl (fun i x v h _ => by simp at h)
 | global g' => exact .lit _ rfl
def runsUpon (P : Program) (R : Value → World → Prop) : Result Next → Prop
 | .ok (.value u) w' => R u w'
 | .ok .skip w' => R undef w'
 | .ok (.enter f args) w' => Calls P f args w' (fun e w'' => ∃ u, e = .returned u ∧ R u w'')
 | .ok (.round l f tmps assign body) w' => RoundIn Fence.wide 0 P l f tmps assign body w' (fun e w'' => ∃ u, e = .returned u ∧ R u w'')
 | _ => False
def runsTo (P : Program) (o : Oper) (a : Act) (w : World) (R : Value → World → Prop) : Prop := runsUpon P R ((execOp a.eval o).run P w)
abbrev wideAt (ro : Option Nat) : Fence := { Fence.wide with round := ro }
theorem runsTo_plain {P : Program} {o : Oper} {a : Act} {w : World} {R : Value → World → Prop} (h : runsTo P o a w R) (c : Call) : o.op ≠ .defer c := by
 intro hd
 unfold runsTo at h
 simp only [execOp, hd, Sem.run_bind, Sem.run_pure] at h
 generalize (resolve a.eval c o.type).run P w = r at h
 cases r with
 | ok d w' => simp [runsUpon, Result.andThen] at h
 | halt x w' => simp [runsUpon, Result.andThen] at h
theorem wp_of_runsTo {P : Program} {o : Oper} {a : Act} {w : World} {R : Value → World → Prop} {K : Act → World → Prop} {Q : Exit → Act → World → Prop} {ro : Option Nat}
  (h : runsTo P o a w R) (hk : ∀ u w', R u w' → K (a.put o.dst u) w') : o.wpIn (wideAt ro) 0 P a w K Q := by
 refine ⟨fun f _ => trivial, ?_⟩
 rw [Oper.semAt_eq _ _ _ (runsTo_plain h)]
 unfold runsTo at h
 generalize (execOp a.eval o).run P w = r at *
 cases r with
 | ok x w' =>
  cases x <;> simp only [runsUpon] at h <;> simp only [Oper.uponIn]
  ·exact hk _ _ h
  ·exact hk _ _ h
  ·have h' : CallsIn (wideAt ro) (0 - 1) P _ _ w' _ := callsIn_wide.2 h
   refine ⟨fun hd => (by cases hd), h'.mono fun e w'' ⟨u, he, hu⟩ => ?_⟩
   subst he
   exact hk _ _ hu
  ·have h' : RoundIn (wideAt ro) (0 - 1) P _ _ _ _ _ w' _ := h
   refine ⟨fun hd => (by cases hd), h'.mono fun e w'' ⟨u, he, hu⟩ => ?_⟩
   subst he
   exact hk _ _ hu
 | halt x w' => simp [runsUpon] at h
def OpHolds (P : Program) (o : Oper) (s : Slots) (id : Nat) (pre : Foot) (v : AV) (post : Foot) : Prop :=
 (∀ p ∈ pre, p.2 ≠ .none) ∧ (∀ q ∈ post, q.1 = id ∨ ∃ p ∈ pre, p.1 = q.1) ∧
 ∀ (W0 : World) (g : Ghost) (σ : Nat → Ent) (n : Nat) (w : World) (a : Act), Sim W0 g σ n w → (∀ x ∈ o.op.operands, Rep g (aeval s x) (a.eval x)) → σ id = .none → id < n → (∀ p ∈ pre, σ p.1 = p.2) →
  runsTo P o a w fun u w' => ∃ g', g.le g' ∧ Sim W0 g' (wr σ post) n w' ∧ Rep g' v u
theorem OpHolds.congr {P : Program} {o : Oper} {s s' : Slots} {id : Nat} {pre post : Foot} {v : AV} (h : OpHolds P o s id pre v post) (hs : ∀ x ∈ o.op.operands, aeval s x = aeval s' x) : OpHolds P o s' id pre v post :=
 ⟨h.1, h.2.1, fun W0 g σ n w a hS hx => h.2.2 W0 g σ n w a hS fun x hm => by rw [hs x hm]; exact hx x hm⟩
def wantedA (ops : Array Oper) (o : Oper) (s : Slots) : Option Bool :=
 match o.guard with
 | none => some true
 | some (j, want) =>
  match (ops[j]?).bind (·.dst) with
  | none => none
  | some d =>
   match s d with
   | .lit (.bool b) => some (b == want)
   | .tup [] => some false
   | _ => none
theorem wantedA_sound {W0 : World} {g : Ghost} {N : Nat} {c : Cfg} {a : Act} {w : World} (h : SimA W0 g N c a w) {ops : Array Oper} {o : Oper} {b : Bool} (hw : wantedA ops o c.s = some b) :
  Region.wanted o (yielded ops a.tmps) = b := by
 unfold wantedA at hw
 unfold Region.wanted
 cases hg : o.guard with
 | none => rw [hg] at hw; simpa using hw
 | some jw =>
  obtain ⟨j, want⟩ := jw
  rw [hg] at hw
  simp only at hw ⊢
  cases hd : (ops[j]?).bind (·.dst) with
  | none => rw [hd] at hw; cases hw
  | some d =>
   rw [hd] at hw
   simp only at hw
   have hr := h.slots d
   unfold yielded
   rw [hd]
   simp only [Option.bind_some]
   cases ht : a.tmps[d]? with
   | none =>
    have hv : a.tmps.getD d undef = undef := by simp [ht]
    rw [hv] at hr
    cases hs : c.s d with
    | lit v =>
     rw [hs] at hr hw
     cases v <;> simp at hw
     cases hr
    | tup xs =>
     rw [hs] at hw
     cases xs with
     | nil => simp at hw; subst hw; rfl
     | cons => simp at hw
    | _ => rw [hs] at hw; simp at hw
   | some v =>
    have hv : a.tmps.getD d undef = v := by simp [ht]
    rw [hv] at hr
    cases hs : c.s d with
    | lit v' =>
     rw [hs] at hr hw
     cases hr
     cases v <;> simp at hw
     subst hw
     rfl
    | tup xs =>
     rw [hs] at hw hr
     cases xs with
     | nil =>
      simp at hw
      subst hw
      cases hr with
      | tup _ vs hl _ => simp
     | cons => simp at hw
    | _ => rw [hs] at hw; simp at hw
structure Step where
 pre : Foot
 v : AV
 post : Foot
instance : Inhabited Step := ⟨⟨[], .tup [], []⟩⟩
def Cfg.after (c : Cfg) (d : Option Tmp) (st : Step) : Cfg := ⟨sput c.s d st.v, wr c.σ st.post, c.n⟩
def StepOK (P : Program) (ops : Array Oper) (o : Oper) (id : Nat) (st : Step) (c : Cfg) : Prop :=
 (wantedA ops o c.s = some true ∧ OpHolds P o c.s id st.pre st.v st.post ∧ ∀ p ∈ st.pre, c.σ p.1 = p.2) ∨
 (wantedA ops o c.s = some false ∧ st = ⟨[], .tup [], []⟩)
def Disj (x y : Step) : Prop := (∀ p ∈ x.post, ∀ q ∈ y.pre ++ y.post, p.1 ≠ q.1) ∧ (∀ p ∈ x.pre, ∀ q ∈ y.post, p.1 ≠ q.1)
theorem Disj.symm {x y : Step} (h : Disj x y) : Disj y x :=
 ⟨fun p hp q hq => (List.mem_append.1 hq).elim (fun hq => Ne.symm (h.2 q hq p hp)) (fun hq => Ne.symm (h.1 q hq p (List.mem_append_right _ hp))),
  fun p hp q hq => Ne.symm (h.1 q hq p (List.mem_append_left _ hp))⟩
theorem sput_comm (s : Slots) {x y : Option Tmp} (v u : AV) (h : ∀ d, x = some d → y ≠ some d) : sput (sput s x v) y u = sput (sput s y u) x v := by
 cases x with
 | none => rfl
 | some d =>
  cases y with
  | none => rfl
  | some e => exact upd_comm _ _ _ _ _ (fun he => h d rfl (by rw [he]))
theorem aeval_sput {s : Slots} {d : Option Tmp} {v : AV} {x : Operand} (h : ∀ e, d = some e → x ≠ .tmp e) : aeval (sput s d v) x = aeval s x := by
 cases d with
 | none => rfl
 | some d =>
  cases x with
  | tmp t => exact upd_ne _ _ _ _ (fun e => h d rfl (by rw [e]))
  | const v =>
   cases v with
   | slice A n c' => cases A <;> cases n <;> cases c' <;> rfl
   | _ => rfl
  | _ => rfl
theorem wantedA_sput {ops : Array Oper} (o : Oper) (s : Slots) (d : Option Tmp) (v : AV) (h : ∀ e, d = some e → e ∉ o.looksAt ops) : wantedA ops o (sput s d v) = wantedA ops o s := by
 unfold wantedA
 cases hg : o.guard with
 | none => rfl
 | some jw =>
  obtain ⟨j, want⟩ := jw
  simp only
  cases ht : (ops[j]?).bind (·.dst) with
  | none => rfl
  | some t =>
   have : sput s d v t = s t := by
    cases d with
    | none => rfl
    | some e => exact upd_ne _ _ _ _ (fun he => h e rfl (by subst he; simp [Oper.looksAt, hg, ht]))
   simp only [this]
theorem OpHolds.sput_iff {P : Program} {ops : Array Oper} {o : Oper} {s : Slots} {id : Nat} {pre post : Foot} {v u : AV} {d : Option Tmp} (h : ∀ e, d = some e → e ∉ o.looksAt ops) :
  OpHolds P o (sput s d u) id pre v post ↔ OpHolds P o s id pre v post := by
 have key : ∀ x ∈ o.op.operands, aeval (sput s d u) x = aeval s x := fun x hx => aeval_sput fun e he hxe => h e he (by
  subst hxe
  exact List.mem_append_left _ (List.mem_filterMap.2 ⟨.tmp e, by simpa using hx, rfl⟩))
 exact ⟨fun h => h.congr key, fun h => h.congr fun x hx => (key x hx).symm⟩
theorem StepOK.after_iff {P : Program} {ops : Array Oper} {oi oj : Oper} {id : Nat} {x y : Step} {c : Cfg} (hap : ∀ e, oi.dst = some e → e ∉ oj.looksAt ops) (hd : ∀ p ∈ x.post, ∀ q ∈ y.pre, p.1 ≠ q.1) :
  StepOK P ops oj id y (c.after oi.dst x) ↔ StepOK P ops oj id y c := by
 unfold StepOK
 simp only [Cfg.after]
 rw [wantedA_sput oj c.s oi.dst x.v hap]
 have hp : (∀ p ∈ y.pre, wr c.σ x.post p.1 = p.2) ↔ (∀ p ∈ y.pre, c.σ p.1 = p.2) :=
  ⟨fun h p hp => by rw [← h p hp, wr_other]; exact fun q hq => hd q hq p hp, fun h p hp => by rw [← h p hp, wr_other]; exact fun q hq => hd q hq p hp⟩
 rw [OpHolds.sput_iff (ops := ops) hap, hp]
theorem Cfg.after_comm {ops : Array Oper} {oi oj : Oper} {x y : Step} (c : Cfg) (hap : oi.apart ops oj = true) (hd : Disj x y) : (c.after oi.dst x).after oj.dst y = (c.after oj.dst y).after oi.dst x := by
 obtain ⟨_, h2, _⟩ := Oper.apart_spec hap
 unfold Cfg.after
 simp only [Cfg.mk.injEq, and_true]
 exact ⟨sput_comm _ _ _ h2, wr_comm _ _ _ fun p hp q hq => hd.1 p hp q (List.mem_append_right _ hq)⟩
section
variable (P : Program) (ops : Array Oper) (m : Nat) (out : Nat → Step)
def anyA (Q : Cfg → Prop) : Nat → Array Bool → Cfg → Prop
 | 0, listed, c => Region.ready .any ops listed = [] ∧ Q c
 | fuel + 1, listed, c =>
  (Region.ready .any ops listed = [] → Q c) ∧
  ∀ i ∈ Region.ready .any ops listed, ∃ o, ops[i]? = some o ∧ StepOK P ops o (m + i) (out i) c ∧ anyA Q fuel (listed.setIfInBounds i true) (c.after o.dst (out i))
inductive Dep (ops : Array Oper) : Nat → Nat → Prop where
 | edge (i j : Nat) (o : Oper) (e : Edge) (ho : ops[j]? = some o) (he : e ∈ o.after) (hb : Region.binds .any e = true) (hi : e.on = i) : Dep ops i j
 | trans (i k j : Nat) (h1 : Dep ops i k) (h2 : Dep ops k j) : Dep ops i j
def Closed (listed : Array Bool) : Prop := ∀ (k : Nat) (o : Oper), ops[k]? = some o → listed.getD k false = true → ∀ e ∈ o.after, Region.binds .any e = true → listed.getD e.on false = true
variable {P ops m out}
theorem Dep.listed {i j : Nat} (h : Dep ops i j) {listed : Array Bool} (hc : Closed ops listed) (hj : listed.getD j false = true) : listed.getD i false = true := by
 induction h with
 | edge i j o e ho he hb hi => exact hi ▸ hc j o ho hj e he hb
 | trans i k j _ _ ih1 ih2 => exact ih1 (ih2 hj)
theorem Dep.ready {i j : Nat} (h : Dep ops i j) {listed : Array Bool} (hc : Closed ops listed) (hj : j ∈ Region.ready .any ops listed) : listed.getD i false = true := by
 induction h with
 | edge i j o' e ho' he hb hi =>
  obtain ⟨_, o, ho, hall⟩ := mem_ready.1 hj
  rw [ho] at ho'
  cases ho'
  exact hi ▸ hall e he hb
 | trans i k j h1 _ _ ih2 => exact h1.listed hc (ih2 hj)
theorem Closed.set {listed : Array Bool} (hc : Closed ops listed) {j : Nat} (hj : j ∈ Region.ready .any ops listed) : Closed ops (listed.setIfInBounds j true) := by
 intro k o ho hk e he hb
 by_cases hkj : k = j
 ·subst hkj
  obtain ⟨_, o', ho', hall⟩ := mem_ready.1 hj
  rw [ho] at ho'
  cases ho'
  exact getD_set_true (hall e he hb)
 ·rw [getD_set_ne false (Ne.symm hkj)] at hk
  exact getD_set_true (hc k o ho hk e he hb)
theorem not_listed_of {listed : Array Bool} {i : Nat} (h : listed.getD i true = false) : listed.getD i false = false := by
 rcases Nat.lt_or_ge i listed.size with h' | h'
 ·simpa [h'] using h
 ·simp [Array.getElem?_eq_none h'] at h
theorem anyA_first {Q : Cfg → Prop} {i : Nat} {oi : Oper} (hi : ops[i]? = some oi) :
  ∀ (fuel : Nat) (listed : Array Bool) (c : Cfg), Closed ops listed →
   (∀ j oj, ops[j]? = some oj → j ≠ i → listed.getD j true = false → (∀ e ∈ oj.after, Region.binds .any e = true → e.on ≠ i) → oi.apart ops oj = true) →
   (∀ j, j ≠ i → listed.getD j true = false → ¬ Dep ops i j → Disj (out i) (out j)) →
   i ∈ Region.ready .any ops listed → StepOK P ops oi (m + i) (out i) c →
   anyA P ops m out Q fuel (listed.setIfInBounds i true) (c.after oi.dst (out i)) → anyA P ops m out Q (fuel + 1) listed c := by
 intro fuel
 induction fuel with
 | zero =>
  intro listed c _ _ _ hr hy H
  refine ⟨fun h => (by rw [h] at hr; cases hr), fun j hj => ?_⟩
  by_cases hji : j = i
  ·subst hji; exact ⟨oi, hi, hy, H⟩
  ·have := ready_mono hj hji
   rw [H.1] at this
   cases this
 | succ fuel ih =>
  intro listed c hcl hfree hdis hr hy H
  refine ⟨fun h => (by rw [h] at hr; cases hr), fun j hj => ?_⟩
  by_cases hji : j = i
  ·subst hji; exact ⟨oi, hi, hy, H⟩
  ·obtain ⟨oj, hoj, hsj, hrest⟩ := H.2 j (ready_mono hj hji)
   obtain ⟨hjun, oj', hoj', hall⟩ := mem_ready.1 hj
   rw [hoj] at hoj'
   cases hoj'
   have hiun := not_listed_of (mem_ready.1 hr).1
   have hnot : ∀ e ∈ oj.after, Region.binds .any e = true → e.on ≠ i := fun e he hb heq => by
    have h1 := hall e he hb
    rw [heq, hiun] at h1
    cases h1
   have hnd : ¬ Dep ops i j := fun hd => by
    have := hd.ready hcl hj
    rw [hiun] at this
    cases this
   have hap := hfree j oj hoj hji hjun hnot
   have hd := hdis j hji hjun hnd
   obtain ⟨h1, _, h3⟩ := Oper.apart_spec hap
   have hsj' : StepOK P ops oj (m + j) (out j) c := (StepOK.after_iff h1 fun p hp q hq => hd.1 p hp q (List.mem_append_left _ hq)).1 hsj
   have hsi' : StepOK P ops oi (m + i) (out i) (c.after oj.dst (out j)) := (StepOK.after_iff h3 fun p hp q hq => Ne.symm (hd.2 q hq p hp)).2 hy
   refine ⟨oj, hoj, hsj', ih (listed.setIfInBounds j true) _ (hcl.set hj) ?_ ?_ (ready_mono hr (Ne.symm hji)) hsi' ?_⟩
   ·intro k ok hk hki hun hno
    refine hfree k ok hk hki ?_ hno
    by_cases hjk : j = k
    ·subst hjk; exact hjun
    ·rw [getD_set_ne true hjk] at hun; exact hun
   ·intro k hki hun hno
    refine hdis k hki ?_ hno
    by_cases hjk : j = k
    ·subst hjk; exact hjun
    ·rw [getD_set_ne true hjk] at hun; exact hun
   ·rw [Array.setIfInBounds_comm _ _ hji, ← Cfg.after_comm c hap hd]
    exact hrest
def lexA (P : Program) (ops : Array Oper) (m : Nat) (out : Nat → Step) (Q : Cfg → Prop) : List Oper → Nat → Cfg → Prop
 | [], _, c => Q c
 | o :: r, k, c => StepOK P ops o (m + k) (out k) c ∧ lexA P ops m out Q r (k + 1) (c.after o.dst (out k))
theorem anyA_lex {Q : Cfg → Prop} (hdis : ∀ i j, i < j → ¬ Dep ops i j → Disj (out i) (out j)) : ∀ (l : List Oper) (k : Nat) (listed : Array Bool) (c : Cfg), (∀ j, l[j]? = ops[k + j]?) → Closed ops listed →
  (∀ j, j < k → listed.getD j true = true) → Region.lexFrom .any ops l.length k listed = true → lexA P ops m out Q l k c → anyA P ops m out Q l.length listed c
 | [], _, _, _, _, _, _, hB, h => ⟨by simpa [Region.lexFrom] using hB, h⟩
 | o :: l, k, listed, c, hl, hcl, hlow, hB, h => by
  have h0 : ops[k]? = some o := by simpa using (hl 0).symm
  simp only [List.length_cons, Region.lexFrom, Bool.and_eq_true] at hB
  obtain ⟨⟨hr, hf⟩, hB'⟩ := hB
  have hr' : k ∈ Region.ready .any ops listed := by simpa using hr
  refine anyA_first h0 l.length listed c hcl (Region.free_spec h0 hf) (fun j hj hun hno => ?_) hr' h.1 ?_
  ·refine hdis k j ?_ hno
   rcases Nat.lt_trichotomy j k with h' | h' | h'
   ·rw [hlow j h'] at hun; cases hun
   ·exact absurd h' hj
   ·exact h'
  ·refine anyA_lex hdis l (k + 1) _ _ (fun j => by have := hl (j + 1); simpa [Nat.add_assoc, Nat.add_comm 1 j] using this) (hcl.set hr') (fun j hj => ?_) hB' h.2
   by_cases hjk : j = k
   ·subst hjk
    rcases Nat.lt_or_ge j listed.size with h' | h'
    ·simp [h']
    ·simp
   ·rw [getD_set_ne true (Ne.symm hjk)]; exact hlow j (by omega)
end
theorem putA_rep {g : Ghost} {s : Slots} {a : Act} {N : Nat} (hs : ∀ t, Rep g (s t) (a.tmps.getD t undef)) (hN : a.tmps.size = N) {d : Option Tmp} (hd : ∀ e, d = some e → e < N) {x : AV} {u : Value} (hx : Rep g x u) :
  ∀ t, Rep g (sput s d x t) ((a.put d u).tmps.getD t undef) := by
 intro t
 cases d with
 | none => exact hs t
 | some d =>
  by_cases htd : t = d
  ·subst htd
   have : t < a.tmps.size := by rw [hN]; exact hd t rfl
   simp [Act.put, sput, upd_same, this]
   exact hx
  ·have h1 : sput s (some d) x t = s t := upd_ne _ _ _ _ htd
   rw [h1]
   have := hs t
   simpa [Act.put, Array.getElem?_setIfInBounds_ne (Ne.symm htd)] using this
theorem put_size (a : Act) (d : Option Tmp) (u : Value) : (a.put d u).tmps.size = a.tmps.size := by cases d <;> simp [Act.put]
theorem put_defers (a : Act) (d : Option Tmp) (u : Value) : (a.put d u).defers = a.defers := by cases d <;> rfl
def shapeOK (N : Nat) (ops : Array Oper) : Bool := ops.all fun o => o.op.operands.all opndOK && (match o.dst with | some d => decide (d < N) | none => true)
theorem shapeOK_at {N : Nat} {ops : Array Oper} (h : shapeOK N ops = true) {i : Nat} {o : Oper} (hi : ops[i]? = some o) : (∀ x ∈ o.op.operands, opndOK x = true) ∧ (∀ d, o.dst = some d → d < N) := by
 have := Array.all_eq_true_iff_forall_mem.1 h o (Array.mem_of_getElem? hi)
 simp only [Bool.and_eq_true] at this
 refine ⟨fun x hx => Array.all_eq_true_iff_forall_mem.1 this.1 x hx, fun d hd => ?_⟩
 have h2 := this.2
 rw [hd] at h2
 simpa using h2
section
variable {P : Program} {ops : Array Oper} {m N : Nat} {out : Nat → Step} {W0 : World}
theorem StepOK.run {o : Oper} {i : Nat} {c : Cfg} {g : Ghost} {a : Act} {w : World} {K : Act → World → Prop} {Q' : Exit → Act → World → Prop} (hi : ops[i]? = some o) (hN : shapeOK N ops = true) (h : StepOK P ops o (m + i) (out i) c)
  (hS : SimA W0 g N c a w) (hfree : c.σ (m + i) = .none) (hlt : m + i < c.n)
  (hK : ∀ g' a' w', g.le g' → SimA W0 g' N (c.after o.dst (out i)) a' w' → a'.defers = a.defers → K a' w') {ro : Option Nat} : wpOpIn (wideAt ro) 0 P ops Q' i K a w := by
 obtain ⟨hop, hdst⟩ := shapeOK_at hN hi
 unfold wpOpIn
 simp only [hi]
 rcases h with ⟨hw, ho, hp⟩ | ⟨hw, hst⟩
 ·rw [wantedA_sound hS hw, if_pos rfl]
  refine (wp_of_runsTo (ho.2.2 W0 g c.σ c.n w a hS.sim (fun x hx => hS.eval (hop x hx)) hfree hlt hp) fun u w' ⟨g', hle, hsim, hrep⟩ => ?_)
  exact hK g' _ _ hle ⟨hsim, by rw [put_size]; exact hS.size, putA_rep (fun t => (hS.slots t).mono hle) hS.size hdst hrep⟩ (put_defers _ _ _)
 ·rw [wantedA_sound hS hw, if_neg (by simp)]
  refine ⟨fun _ _ => trivial, hK g _ _ g.le_refl ⟨?_, by rw [put_size]; exact hS.size, ?_⟩ (put_defers _ _ _)⟩
  ·rw [hst]; exact hS.sim
  ·rw [hst]
   exact putA_rep hS.slots hS.size hdst (.tup [] [] rfl fun i x v h _ => by simp at h)
theorem StepOK.post_ids {o : Oper} {i : Nat} {st : Step} {c : Cfg} (h : StepOK P ops o (m + i) st c) : ∀ q ∈ st.post, q.1 = m + i ∨ c.σ q.1 ≠ .none := by
 rcases h with ⟨_, ho, hp⟩ | ⟨_, rfl⟩
 ·intro q hq
  rcases ho.2.1 q hq with h1 | ⟨p, hpm, hpq⟩
  ·exact .inl h1
  ·exact .inr (by rw [← hpq, hp p hpm]; exact ho.1 p hpm)
 ·intro q hq; cases hq
theorem anyA_sound {Q : Cfg → Prop} {Q' : Exit → Act → World → Prop} {ro : Option Nat} {D : List Deferred} (g0 : Ghost) (hN : shapeOK N ops = true) (hQ : ∀ c g a w, g0.le g → SimA W0 g N c a w → a.defers = D → Q c → Q' .normal a w) :
  ∀ (fuel : Nat) (listed : Array Bool) (c : Cfg) (g : Ghost) (a : Act) (w : World), g0.le g → SimA W0 g N c a w → a.defers = D → m + ops.size ≤ c.n → (∀ j, j < ops.size → listed.getD j true = false → c.σ (m + j) = .none) →
   anyA P ops m out Q fuel listed c → wpAnyIn (wideAt ro) 0 P .any ops Q' fuel listed a w
 | 0, _, c, g, a, w, hg, hS, hD, _, _, h => ⟨h.1, hQ c g a w hg hS hD h.2⟩
 | fuel + 1, listed, c, g, a, w, hg, hS, hD, hn, hf, h => by
  refine ⟨fun h0 => hQ c g a w hg hS hD (h.1 h0), fun i hi => ?_⟩
  obtain ⟨o, ho, hst, hrest⟩ := h.2 i hi
  have hlt : i < ops.size := (Array.getElem?_eq_some_iff.1 ho).1
  have hun := (mem_ready.1 hi).1
  refine hst.run ho hN hS (hf i hlt hun) (by omega) fun g' a' w' hle hS' hD' => ?_
  refine anyA_sound g0 hN hQ fuel _ _ g' a' w' (hg.trans hle) hS' (hD'.trans hD) hn (fun j hj hjun => ?_) hrest
  have hji : j ≠ i := by
   rintro rfl
   rcases Nat.lt_or_ge j listed.size with h' | h'
   ·simp [h'] at hjun
   ·simp at hjun
  have hjun' : listed.getD j true = false := by rw [getD_set_ne true (Ne.symm hji)] at hjun; exact hjun
  have hnone := hf j hj hjun'
  show wr c.σ (out i).post (m + j) = .none
  rw [wr_other]
  ·exact hnone
  ·intro q hq he
   rcases hst.post_ids q hq with h1 | h1
   ·omega
   ·rw [he] at h1; exact h1 hnone
theorem lexA_sound {Q : Cfg → Prop} {Q' : Exit → Act → World → Prop} {ro : Option Nat} {D : List Deferred} (g0 : Ghost) (hN : shapeOK N ops = true) (hQ : ∀ c g a w, g0.le g → SimA W0 g N c a w → a.defers = D → Q c → Q' .normal a w) :
  ∀ (l : List Oper) (k : Nat) (c : Cfg) (g : Ghost) (a : Act) (w : World), (∀ j, l[j]? = ops[k + j]?) → k + l.length = ops.size → g0.le g → SimA W0 g N c a w → a.defers = D → m + ops.size ≤ c.n → (∀ j, k ≤ j → j < ops.size → c.σ (m + j) = .none) →
   lexA P ops m out Q l k c → wpOpsIn (wideAt ro) 0 P ops Q' (List.range' k l.length) a w
 | [], k, c, g, a, w, _, _, hg, hS, hD, _, _, h => by simpa [wpOpsIn] using hQ c g a w hg hS hD h
 | o :: l, k, c, g, a, w, hl, hk, hg, hS, hD, hn, hf, h => by
  have h0 : ops[k]? = some o := by simpa using (hl 0).symm
  simp only [List.length_cons] at hk ⊢
  rw [List.range'_succ, wpOpsIn_cons]
  refine h.1.run h0 hN hS (hf k (Nat.le_refl _) (by omega)) (by omega) fun g' a' w' hle hS' hD' => ?_
  refine lexA_sound g0 hN hQ l (k + 1) _ g' a' w' (fun j => by have := hl (j + 1); simpa [Nat.add_assoc, Nat.add_comm 1 j] using this) (by omega) (hg.trans hle) hS' (hD'.trans hD) hn (fun j hj hjs => ?_) h.2
  have hnone := hf j (by omega) hjs
  show wr c.σ (out k).post (m + j) = .none
  rw [wr_other]
  ·exact hnone
  ·intro q hq he
   rcases h.1.post_ids q hq with h1 | h1
   ·omega
   ·rw [he] at h1; exact h1 hnone
end

def AV.get : AV → List Nat → Option AV
 | x, [] => some x
 | .agg xs, i :: p => match xs[i]? with
  | some y => y.get p
  | none => none
 | _, _ :: _ => none
def AV.offs : AV → List Nat → Nat
 | _, [] => 0
 | .agg xs, i :: p => AV.szl (xs.take i) + match xs[i]? with
  | some y => y.offs p
  | none => 0
 | _, _ :: _ => 0
def AV.put : AV → List Nat → AV → AV
 | _, [], z => z
 | .agg xs, i :: p, z => match xs[i]? with
  | some y => .agg (xs.set i (y.put p z))
  | none => .agg xs
 | x, _ :: _, _ => x
mutual
def AV.cell : AV → Bool
 | .agg xs => AV.celll xs
 | .tup _ => false
 | _ => true
def AV.celll : List AV → Bool
 | [] => true
 | x :: r => AV.cell x && AV.celll r
end
theorem AV.celll_all (xs : List AV) : AV.celll xs = xs.all AV.cell := by
 induction xs with
 | nil => rfl
 | cons x r ih => simp [AV.celll, ih]
theorem flat_take_drop (xs : List AV) (vs : List Value) (hl : vs.length = xs.length) (h : ∀ (i : Nat) (x : AV) (v : Value), xs[i]? = some x → vs[i]? = some v → v.cells.size = x.sz) (i : Nat) (v : Value) (hv : vs[i]? = some v) :
  flat vs = flat (vs.take i) ++ v.cells.toList ++ flat (vs.drop (i + 1)) ∧ (flat (vs.take i)).length = AV.szl (xs.take i) := by
 have hi : i < vs.length := (List.getElem?_eq_some_iff.1 hv).1
 constructor
 ·conv => lhs; rw [← List.take_append_drop i vs]
  rw [flat_append, List.drop_eq_getElem_cons hi, flat_cons, (List.getElem?_eq_some_iff.1 hv).2, List.append_assoc]
 ·refine flat_size_of _ _ (by simp [hl]) fun j x u h1 h2 => ?_
  rw [List.getElem?_take] at h1 h2
  split at h1
  ·rename_i hj; rw [if_pos hj] at h2; exact h j x u h1 h2
  ·cases h1
theorem cells_agg (cs : Array Value) : (Value.agg cs).cells = cs := rfl
theorem Rep.get {g : Ghost} {c : AV} {v : Value} (h : Rep g c v) {path : List Nat} {y : AV} (hp : c.get path = some y) :
  ∃ u, Rep g y u ∧ c.offs path + u.cells.size ≤ v.cells.size ∧ ∀ (j : Nat) (x : Value), u.cells.toList[j]? = some x → v.cells.toList[c.offs path + j]? = some x := by
 induction path generalizing c v with
 | nil =>
  simp only [AV.get, Option.some.injEq] at hp
  subst hp
  exact ⟨v, h, by simp [AV.offs], fun j x hx => by simpa [AV.offs] using hx⟩
 | cons i p ih =>
  cases c with
  | agg xs =>
   cases h with
   | agg _ vs hl hr =>
    simp only [AV.get] at hp
    cases hi : xs[i]? with
    | none => rw [hi] at hp; cases hp
    | some z =>
     rw [hi] at hp
     have hlt : i < vs.length := by rw [hl]; exact (List.getElem?_eq_some_iff.1 hi).1
     have hvi : vs[i]? = some vs[i] := List.getElem?_eq_getElem hlt
     obtain ⟨u, hu, hb, hc⟩ := ih (hr i z _ hi hvi) hp
     obtain ⟨hf, hfl⟩ := flat_take_drop xs vs hl (fun j x w h1 h2 => (hr j x w h1 h2).size) i _ hvi
     refine ⟨u, hu, ?_, fun j x hx => ?_⟩
     ·simp only [AV.offs, hi, cells_agg, List.size_toArray]
      rw [hf, List.length_append, List.length_append, hfl, Array.length_toList]
      omega
     ·simp only [AV.offs, hi, cells_agg]
      have := hc j x hx
      have hlt2 : z.offs p + j < (vs[i]).cells.toList.length := (List.getElem?_eq_some_iff.1 this).1
      rw [hf, List.append_assoc, Nat.add_assoc, List.getElem?_append_right (by omega), hfl, List.getElem?_append_left (by omega)]
      rw [← this]; congr 1; omega
  | _ => simp [AV.get] at hp
theorem Rep.put {g : Ghost} {c : AV} {v : Value} (h : Rep g c v) {path : List Nat} {y z : AV} {u : Value} (hp : c.get path = some y) (hz : Rep g z u) (hs : y.sz = z.sz) :
  ∃ v', Rep g (c.put path z) v' ∧ v'.cells.toList = v.cells.toList.take (c.offs path) ++ u.cells.toList ++ v.cells.toList.drop (c.offs path + u.cells.size) := by
 induction path generalizing c v with
 | nil =>
  simp only [AV.get, Option.some.injEq] at hp
  subst hp
  refine ⟨u, hz, ?_⟩
  have : u.cells.size = v.cells.size := by rw [hz.size, h.size, hs]
  simp [AV.offs, this]
 | cons i p ih =>
  cases c with
  | agg xs =>
   cases h with
   | agg _ vs hl hr =>
    simp only [AV.get] at hp
    cases hi : xs[i]? with
    | none => rw [hi] at hp; cases hp
    | some q =>
     rw [hi] at hp
     have hlt : i < vs.length := by rw [hl]; exact (List.getElem?_eq_some_iff.1 hi).1
     have hvi : vs[i]? = some vs[i] := List.getElem?_eq_getElem hlt
     obtain ⟨v', hv', hc'⟩ := ih (hr i q _ hi hvi) hp
     obtain ⟨w, hw, hwb, _⟩ := (hr i q _ hi hvi).get hp
     have hwu : w.cells.size = u.cells.size := by rw [hw.size, hz.size, hs]
     obtain ⟨hf, hfl⟩ := flat_take_drop xs vs hl (fun j x w h1 h2 => (hr j x w h1 h2).size) i _ hvi
     simp only [AV.put, hi]
     refine ⟨.agg (flat (vs.set i v')).toArray, .agg _ _ (by simp [hl]) (fun j x' w' h1 h2 => ?_), ?_⟩
     ·by_cases hj : j = i
      ·subst hj
       have hx : j < xs.length := by omega
       rw [List.getElem?_set_self hx] at h1
       rw [List.getElem?_set_self hlt] at h2
       cases h1; cases h2; exact hv'
      ·rw [List.getElem?_set_ne (Ne.symm hj)] at h1 h2
       exact hr j x' w' h1 h2
     ·simp only [cells_agg, AV.offs, hi]
      have e1 : flat (vs.set i v') = flat (vs.take i) ++ v'.cells.toList ++ flat (vs.drop (i + 1)) := by
       have hlt' : i < (vs.set i v').length := by simpa using hlt
       have := (List.take_append_drop i (vs.set i v'))
       rw [← this, flat_append, List.drop_eq_getElem_cons hlt', flat_cons]
       have tk : (vs.set i v').take i = vs.take i := by
        apply List.ext_getElem?
        intro j
        rw [List.getElem?_take, List.getElem?_take]
        split
        ·rw [List.getElem?_set_ne (by omega)]
        ·rfl
       simp [tk, List.drop_set_of_lt, List.append_assoc]
      show flat (vs.set i v') = _
      rw [e1, hc', hf]
      have l1 : (flat (vs.take i)).length = AV.szl (xs.take i) := hfl
      have l2 : q.offs p + u.cells.size ≤ (vs[i]).cells.toList.length := by rw [Array.length_toList]; omega
      rw [List.append_assoc (flat (vs.take i)) (vs[i]).cells.toList (flat (vs.drop (i + 1))), ← l1, List.take_length_add_append, Nat.add_assoc, List.drop_length_add_append, List.take_append_of_le_length (by omega), List.drop_append_of_le_length (by omega)]
      simp [List.append_assoc]
  | _ => simp [AV.get] at hp
theorem Rep.cell_ok {g : Ghost} {x : AV} {v : Value} (h : Rep g x v) (hx : x.cell = true) : ∀ u ∈ v.cells.toList, u.oneCell' = true := by
 induction h with
 | agg xs vs hl _ ih =>
  intro u hu
  simp only [Value.cells] at hu
  obtain ⟨v, hv, hu⟩ := mem_flat.1 hu
  obtain ⟨i, hi⟩ := List.getElem?_of_mem hv
  have hlt : i < xs.length := by rw [← hl]; exact (List.getElem?_eq_some_iff.1 hi).1
  have hc : xs[i].cell = true := by
   simp only [AV.cell, AV.celll_all, List.all_eq_true] at hx
   exact hx _ (List.getElem_mem hlt)
  exact ih i xs[i] v (List.getElem?_eq_getElem hlt) hi hc u hu
 | tup => simp [AV.cell] at hx
 | any v h => intro u hu; rw [oneCell_cells h] at hu; simp at hu; subst hu; exact h
 | lit v h => intro u hu; rw [oneCell_cells h] at hu; simp at hu; subst hu; exact h
 | nils => intro u hu; simp [Value.cells] at hu; subst hu; rfl
 | slice => intro u hu; simp [Value.cells] at hu; subst hu; rfl
 | ptr => intro u hu; simp [Value.cells] at hu; subst hu; rfl
 | view => intro u hu; simp [Value.cells] at hu; subst hu; rfl
 | fn => intro u hu; simp [Value.cells] at hu; subst hu; rfl
 | clip => intro u hu; simp [Value.cells] at hu; subst hu; rfl
 | ms => intro u hu; simp [Value.cells] at hu; subst hu; rfl
 | mp => intro u hu; simp [Value.cells] at hu; subst hu; rfl
 | bs => intro u hu; simp [Value.cells] at hu; subst hu; rfl
 | iface => intro u hu; simp [Value.cells] at hu; subst hu; rfl
mutual
def AV.flatLit : AV → List Value
 | .lit v => [v]
 | .nils => [.slice none 0 0]
 | .agg xs => AV.flatLits xs
 | _ => []
def AV.flatLits : List AV → List Value
 | [] => []
 | x :: r => AV.flatLit x ++ AV.flatLits r
end
mutual
def AV.litOK : AV → Bool
 | .lit v => v.oneCell'
 | .nils => true
 | .agg xs => AV.litOKs xs
 | _ => false
def AV.litOKs : List AV → Bool
 | [] => true
 | x :: r => AV.litOK x && AV.litOKs r
end
mutual
theorem AV.rep_lit (g : Ghost) : ∀ (x : AV), x.litOK = true → ∃ v, Rep g x v ∧ v.cells.toList = x.flatLit
 | .lit v, h => ⟨v, .lit v h, by rw [oneCell_cells h]; rfl⟩
 | .nils, _ => ⟨_, .nils, rfl⟩
 | .agg xs, h => by
  obtain ⟨vs, hl, hr, hc⟩ := AV.rep_lits g xs h
  exact ⟨_, .agg xs vs hl hr, by simpa [Value.cells, AV.flatLit] using hc⟩
theorem AV.rep_lits (g : Ghost) : ∀ (xs : List AV), AV.litOKs xs = true → ∃ vs : List Value, vs.length = xs.length ∧ (∀ (i : Nat) (x : AV) (v : Value), xs[i]? = some x → vs[i]? = some v → Rep g x v) ∧ flat vs = AV.flatLits xs
 | [], _ => ⟨[], rfl, fun i x v h _ => by simp at h, rfl⟩
 | x :: r, h => by
  simp only [AV.litOKs, Bool.and_eq_true] at h
  obtain ⟨v, hv, hc⟩ := AV.rep_lit g x h.1
  obtain ⟨vs, hl, hr, hcs⟩ := AV.rep_lits g r h.2
  refine ⟨v :: vs, by simp [hl], fun i y u h1 h2 => ?_, by rw [flat_cons, hc, hcs]; rfl⟩
  cases i with
  | zero => simp at h1 h2; subst h1; subst h2; exact hv
  | succ i => exact hr i y u (by simpa using h1) (by simpa using h2)
end
mutual
theorem AV.cell_of_lit : ∀ (x : AV), x.litOK = true → x.cell = true
 | .lit _, _ => rfl
 | .nils, _ => rfl
 | .agg xs, h => AV.celll_of_lits xs h
theorem AV.celll_of_lits : ∀ (xs : List AV), AV.litOKs xs = true → AV.celll xs = true
 | [], _ => rfl
 | x :: r, h => by
  simp only [AV.litOKs, Bool.and_eq_true] at h
  simp only [AV.celll, Bool.and_eq_true]
  exact ⟨AV.cell_of_lit x h.1, AV.celll_of_lits r h.2⟩
end
def valEq : Value → Value → Bool
 | .bool a, .bool b => a == b
 | .int j a, .int k b => j == k && a == b
 | .string a, .string b => a.size == 0 && b.size == 0
 | .pointer none, .pointer none => true
 | .slice none 0 0, .slice none 0 0 => true
 | .map none, .map none => true
 | .nilFunc, .nilFunc => true
 | .nilIface, .nilIface => true
 | _, _ => false
theorem valEq_sound {a b : Value} (h : valEq a b = true) : a = b := by
 unfold valEq at h
 split at h
 ·simp at h; rw [h]
 ·simp at h; rw [h.1, h.2]
 ·rename_i a b
  simp at h
  rw [h.1, h.2]
 all_goals first | rfl | cases h
def valsEq : List Value → List Value → Bool
 | [], [] => true
 | a :: r, b :: q => valEq a b && valsEq r q
 | _, _ => false
theorem valsEq_sound : ∀ {a b : List Value}, valsEq a b = true → a = b
 | [], [], _ => rfl
 | a :: r, b :: q, h => by
  simp only [valsEq, Bool.and_eq_true] at h
  rw [valEq_sound h.1, valsEq_sound h.2]
 | [], _ :: _, h => by simp [valsEq] at h
 | _ :: _, [], h => by simp [valsEq] at h
def ztOf (P : Program) : Nat → TypeId → AV
 | 0, _ => .any
 | d + 1, t => match P.underlying t with
  | some .bool => .lit (.bool false)
  | some (.int k) => .lit (.int k 0)
  | some .string => .lit (.string ByteArray.empty)
  | some (.pointer _) => .lit (.pointer none)
  | some (.slice _) => .nils
  | some (.map _ _) => .lit (.map none)
  | some (.func _ _ _) => .lit .nilFunc
  | some (.interface _) => .lit .nilIface
  | some (.struct fs) => .agg (fs.toList.map fun f => ztOf P d f.type)
  | some (.array n e) => .agg (List.replicate n (ztOf P d e))
  | _ => .any
def valAgg : Value → Bool
 | .agg _ => true
 | _ => false
def valTup : Value → Bool
 | .tuple _ => true
 | _ => false
def ztree (P : Program) (t : TypeId) : Option AV :=
 let x := ztOf P 8 t
 match P.info? t with
 | some i => match i.zero with
  | some z => if x.litOK && valsEq x.flatLit z.cells.toList && (x.isAgg == valAgg z) && !(valTup z) then some x else none
  | none => none
 | none => none
theorem Rep.of_cells {g : Ghost} {x : AV} {u z : Value} (h : Rep g x u) (hc : u.cells.toList = z.cells.toList) (ha : x.isAgg = valAgg z) (ht : valTup z = false) (hx : x.cell = true) : Rep g x z := by
 cases z with
 | agg cs =>
  cases h <;> simp [AV.isAgg, valAgg] at ha
  case agg xs vs hl hr =>
   have : cs = (flat vs).toArray := by
    simp only [Value.cells] at hc
    rw [hc]
   rw [this]; exact .agg xs vs hl hr
 | tuple => simp [valTup] at ht
 | _ =>
  have h1 : x.one = true := by cases x <;> simp_all [AV.isAgg, AV.one, AV.cell, valAgg]
  rw [h.cells_one h1] at hc
  simp [Value.cells] at hc
  rw [← hc]; exact h
theorem ztree_sound {P : Program} {t : TypeId} {x : AV} (h : ztree P t = some x) (g : Ghost) : ∃ i z, P.info? t = some i ∧ i.zero = some z ∧ Rep g x z := by
 unfold ztree at h
 simp only at h
 split at h
 ·rename_i i hi
  split at h
  ·rename_i z hz
   split at h
   ·rename_i hc
    simp only [Bool.and_eq_true, beq_iff_eq, Bool.not_eq_true'] at hc
    cases h
    obtain ⟨v, hv, hvc⟩ := AV.rep_lit g _ hc.1.1.1
    refine ⟨i, z, hi, hz, hv.of_cells (hvc.trans (valsEq_sound hc.1.1.2)) hc.1.2 hc.2 ?_⟩
    exact AV.cell_of_lit _ hc.1.1.1
   ·cases h
  ·cases h
 ·cases h

section
variable {P : Program} {o : Oper} {s : Slots} {id : Nat} {v : AV}
theorem holds_read {pre : Foot} (hpre : ∀ p ∈ pre, p.2 ≠ .none)
  (h : ∀ (W0 : World) (g : Ghost) (σ : Nat → Ent) (n : Nat) (w : World) (a : Act), Sim W0 g σ n w → (∀ x ∈ o.op.operands, Rep g (aeval s x) (a.eval x)) → (∀ p ∈ pre, σ p.1 = p.2) →
   ∃ u, (execOp a.eval o).run P w = .ok (.value u) w ∧ Rep g v u) : OpHolds P o s id pre v [] := by
 refine ⟨hpre, fun q hq => (by cases hq), fun W0 g σ n w a hS hx _ _ hp => ?_⟩
 obtain ⟨u, hu, hr⟩ := h W0 g σ n w a hS hx hp
 unfold runsTo
 rw [hu]
 exact ⟨g, g.le_refl, hS, hr⟩
theorem holds_pure (h : ∀ (g : Ghost) (w : World) (a : Act), (∀ x ∈ o.op.operands, Rep g (aeval s x) (a.eval x)) → ∃ u, (execOp a.eval o).run P w = .ok (.value u) w ∧ Rep g v u) : OpHolds P o s id [] v [] :=
 holds_read (fun p hp => (by cases hp)) fun _ g _ _ w a _ hx _ => h g w a hx
theorem holds_move {x : Operand} (ho : o.op = .move x) : OpHolds P o s id [] (aeval s x) [] :=
 holds_pure fun g w a hx => ⟨a.eval x, by simp [execOp, ho], hx x (by simp [ho, Op.operands])⟩
theorem holds_assign {x : Operand} (ho : o.op = .assign x) : OpHolds P o s id [] (aeval s x) [] :=
 holds_pure fun g w a hx => ⟨a.eval x, by simp [execOp, ho], hx x (by simp [ho, Op.operands])⟩
def pickAV (t : Bool) : AV → AV → AV
 | .lit (.bool p), .lit (.bool q) => .lit (.bool (bif t then p else q))
 | x, y => bif t then x else y
theorem pickAV_eq (t : Bool) (x y : AV) : pickAV t x y = bif t then x else y := by
 unfold pickAV
 split
 ·cases t <;> rfl
 ·rfl
theorem holds_pick {c x y : Operand} {t : Bool} (ho : o.op = .pick c x y) (hc : aeval s c = .lit (.bool t)) : OpHolds P o s id [] (pickAV t (aeval s x) (aeval s y)) [] :=
 holds_pure fun g w a hx => by
  have h1 := hx c (by simp [ho, Op.operands])
  rw [hc] at h1
  have h2 := hx x (by simp [ho, Op.operands])
  have h3 := hx y (by simp [ho, Op.operands])
  cases hv : a.eval c <;> rw [hv] at h1 <;> cases h1
  refine ⟨if t then a.eval x else a.eval y, by simp [execOp, ho, hv, asBool], ?_⟩
  rw [pickAV_eq]
  cases t <;> simp [h2, h3]
theorem holds_extract {x : Operand} {i : Nat} {xs : List AV} {y : AV} (ho : o.op = .extract x i) (hx : aeval s x = .tup xs) (hy : xs[i]? = some y) : OpHolds P o s id [] y [] :=
 holds_pure fun g w a hr => by
  have h1 := hr x (by simp [ho, Op.operands])
  rw [hx] at h1
  generalize hv : a.eval x = v at h1
  cases h1 with
  | tup _ vs hl h =>
   have hlt : i < vs.length := by rw [hl]; exact (List.getElem?_eq_some_iff.1 hy).1
   refine ⟨vs[i], by simp [execOp, ho, hv, Instr.extract, hlt], h i y _ hy (List.getElem?_eq_getElem hlt)⟩
theorem holds_nilCheck {x : Operand} (ho : o.op = .nilCheck x) (hx : match aeval s x with | .ptr .. | .view _ | .fn .. => True | _ => False) : OpHolds P o s id [] (aeval s x) [] :=
 holds_pure fun g w a hr => by
  have h1 := hr x (by simp [ho, Op.operands])
  refine ⟨a.eval x, ?_, h1⟩
  generalize hv : a.eval x = u at h1
  generalize aeval s x = e at h1 hx
  cases h1 <;> first | (simp at hx; done) | simp [execOp, ho, hv]
theorem holds_makeFunc {f : FuncId} {cap : Array Operand} (ho : o.op = .makeFunc (.func f) #[] cap) : OpHolds P o s id [] (.fn f (cap.toList.map (aeval s))) [] :=
 holds_pure fun g w a hr => by
  refine ⟨.func (.func f) #[] (cap.toList.map a.eval).toArray, by simp [execOp, ho, Instr.makeFunc, ← Array.toList_map], .fn f _ _ (by simp) fun i x v h1 h2 => ?_⟩
  rw [List.getElem?_map] at h1 h2
  cases hc : cap.toList[i]? with
  | none => rw [hc] at h1; cases h1
  | some c =>
   rw [hc] at h1 h2
   cases h1; cases h2
   refine hr c ?_
   simp only [ho, Op.operands]
   have : c ∈ cap.toList := List.mem_of_getElem? hc
   simpa using this
def litInt (op : BinOp) (k : IntKind) (a b : Int) : Option Value :=
 match op with
 | .add => some (.int k (k.wrap (a + b)))
 | .sub => some (.int k (k.wrap (a - b)))
 | .mul => some (.int k (k.wrap (a * b)))
 | .quo => if b = 0 then none else some (.int k (k.wrap (a.tdiv b)))
 | .rem => if b = 0 then none else some (.int k (a.tmod b))
 | .and => some (.int k (bits .and k a b))
 | .or => some (.int k (bits .or k a b))
 | .xor => some (.int k (bits .xor k a b))
 | .andNot => some (.int k (bits .andNot k a b))
 | .eql => some (.bool (a == b))
 | .neq => some (.bool (a != b))
 | .lss => some (.bool (a < b))
 | .leq => some (.bool (a ≤ b))
 | .gtr => some (.bool (a > b))
 | .geq => some (.bool (a ≥ b))
 | _ => none
def litStr (op : BinOp) (a b : ByteArray) : Option Value :=
 match op with
 | .add => if a.size + b.size ≤ 9223372036854775807 then some (.string (a ++ b)) else none
 | .eql => some (.bool (a.toList == b.toList))
 | .neq => some (.bool (!(a.toList == b.toList)))
 | .lss => some (.bool (Op.bytesLess a.toList b.toList))
 | _ => none
def boolTy (P : Program) (t : TypeId) : Bool :=
 match P.underlying t with
 | some .bool => true
 | _ => false
def litBin (P : Program) (op : BinOp) (t : TypeId) : Value → Value → Option Value
 | .int k a, .int k' b =>
  match op with
  | .shl => if 0 ≤ b then some (.int k (k.wrap (a * 2 ^ min b.toNat k.bits))) else none
  | .shr => if 0 ≤ b then some (.int k (a.fdiv (2 ^ min b.toNat k.bits))) else none
  | _ => if k = k' then litInt op k a b else none
 | .string a, .string b => litStr op a b
 | .bool a, .bool b =>
  match op with
  | .eql => if boolTy P t then some (.bool (a == b)) else none
  | .neq => if boolTy P t then some (.bool (!(a == b))) else none
  | _ => none
 | _, _ => none
theorem run_equalIn_bool {t : TypeId} (h : P.underlying t = some .bool) (d : Nat) (a b : Bool) (w : World) : (Op.equalIn (d + 1) t (.bool a) (.bool b)).run P w = .ok (a == b) w := by
 simp [Op.equalIn, run_underlying h]
theorem run_eql_bool {t : TypeId} (h : P.underlying t = some .bool) (a b : Bool) (w : World) : (binOp .eql t (.bool a) (.bool b)).run P w = .ok (.bool (a == b)) w := by
 simp only [binOp]
 simp only [Op.equal, Op.maxDepth, Sem.run_bind, run_equalIn_bool h 9999]
 rfl
theorem run_neq_bool {t : TypeId} (h : P.underlying t = some .bool) (a b : Bool) (w : World) : (binOp .neq t (.bool a) (.bool b)).run P w = .ok (.bool (!(a == b))) w := by
 simp only [binOp]
 simp only [Op.equal, Op.maxDepth, Sem.run_bind, run_equalIn_bool h 9999]
 rfl
theorem litBin_sound {op : BinOp} {t : TypeId} {x y : Operand} {u v r : Value} (h : litBin P op t u v = some r) (w : World) :
  (do eqGuard op t x y u v; binOp op t u v : Sem Value).run P w = .ok r w ∧ r.oneCell' = true := by
 unfold litBin at h
 split at h
 ·rename_i k a k' b
  rw [eqGuard_at_int]
  split at h
  ·split at h <;> cases h
   rename_i hb
   exact ⟨by simp [binOp, Op.shift, Int.not_lt.2 hb], rfl⟩
  ·split at h <;> cases h
   rename_i hb
   exact ⟨by simp [binOp, Op.shift, Int.not_lt.2 hb], rfl⟩
  ·split at h
   ·rename_i hk
    subst hk
    cases op <;> simp only [litInt] at h <;> first
     | (cases h; exact ⟨by simp [go_sem], rfl⟩)
     | (split at h <;> cases h; rename_i hb; exact ⟨by simp [go_sem, hb], rfl⟩)
     | cases h
   ·cases h
 ·rename_i a b
  rw [eqGuard_at_string]
  cases op <;> simp only [litStr] at h <;> first
   | (cases h; exact ⟨by simp [binOp, Op.stringOp], rfl⟩)
   | (split at h <;> cases h; rename_i hb; exact ⟨by simp [binOp, Op.stringOp]; omega, rfl⟩)
   | cases h
 ·rename_i a b
  rw [eqGuard_at_bool]
  have hb : boolTy P t = true → P.underlying t = some .bool := fun hb => by
   unfold boolTy at hb
   split at hb
   ·assumption
   ·cases hb
  cases op <;> simp only at h <;> first
   | (split at h <;> cases h; rename_i hq; exact ⟨by rw [Sem.run_bind]; exact run_eql_bool (hb hq) a b w, rfl⟩)
   | (split at h <;> cases h; rename_i hq; exact ⟨by rw [Sem.run_bind]; exact run_neq_bool (hb hq) a b w, rfl⟩)
   | cases h
 ·cases h
theorem rep_lit_inv {g : Ghost} {v u : Value} (h : Rep g (.lit v) u) : u = v := by cases h; rfl
theorem holds_binOp {op : BinOp} {t yt : TypeId} {x y : Operand} {u v r : Value} (ho : o.op = .binOp op t x y yt) (hx : aeval s x = .lit u) (hy : aeval s y = .lit v) (h : litBin P op t u v = some r) :
  OpHolds P o s id [] (.lit r) [] :=
 holds_pure fun g w a hr => by
  have h1 := hr x (by simp [ho, Op.operands])
  have h2 := hr y (by simp [ho, Op.operands])
  rw [hx] at h1
  rw [hy] at h2
  have e1 := rep_lit_inv h1
  have e2 := rep_lit_inv h2
  obtain ⟨hrun, hone⟩ := litBin_sound (x := x) (y := y) h w
  refine ⟨r, ?_, .lit r hone⟩
  simp only [execOp, ho, e1, e2]
  rw [Sem.run_bind, hrun]
  rfl
def litUn (op : UnOp) : Value → Option Value
 | .bool b => match op with
  | .not => some (.bool !b)
  | _ => none
 | .int k n => match op with
  | .neg => some (.int k (k.wrap (0 - n)))
  | .xor => some (.int k (bits .xor k (if k.signed then -1 else k.max) n))
  | _ => none
 | _ => none
theorem holds_unOp {op : UnOp} {t : TypeId} {x : Operand} {u r : Value} (ho : o.op = .unOp op t x) (hx : aeval s x = .lit u) (h : litUn op u = some r) : OpHolds P o s id [] (.lit r) [] :=
 holds_pure fun g w a hr => by
  have h1 := hr x (by simp [ho, Op.operands])
  rw [hx] at h1
  have e1 := rep_lit_inv h1
  cases u <;> simp only [litUn] at h <;> cases op <;> simp at h
  all_goals
   subst h
   refine ⟨_, ?_, .lit _ rfl⟩
   simp [execOp, ho, e1, Op.unary, Op.intArith, intBits_xor]
def intTy (P : Program) (t : TypeId) : Option IntKind :=
 match P.underlying t with
 | some (.int k) => some k
 | _ => none
theorem intTy_sound {t : TypeId} {k : IntKind} (h : intTy P t = some k) : P.underlying t = some (.int k) := by
 unfold intTy at h
 split at h
 ·cases h; assumption
 ·cases h
theorem holds_convert_int {src dst : TypeId} {x : Operand} {k k' : IntKind} {n : Int} {k0 : IntKind} (ho : o.op = .convert src dst x) (hs : intTy P src = some k0) (hd : intTy P dst = some k') (hx : aeval s x = .lit (.int k n)) :
  OpHolds P o s id [] (.lit (.int k' (k'.wrap n))) [] :=
 holds_pure fun g w a hr => by
  have h1 := hr x (by simp [ho, Op.operands])
  rw [hx] at h1
  have e1 := rep_lit_inv h1
  refine ⟨_, ?_, .lit _ rfl⟩
  simp [execOp, ho, e1, convert, run_underlying (intTy_sound hs), run_underlying (intTy_sound hd), Conv.intToInt]
def strTy (P : Program) (t : TypeId) : Bool :=
 match P.underlying t with
 | some .string => true
 | _ => false
theorem strTy_sound {t : TypeId} (h : strTy P t = true) : P.underlying t = some .string := by
 unfold strTy at h
 split at h
 ·assumption
 ·cases h
theorem holds_convert_str {src dst : TypeId} {x : Operand} {b : ByteArray} (ho : o.op = .convert src dst x) (hs : strTy P src = true) (hd : strTy P dst = true) (hx : aeval s x = .lit (.string b)) :
  OpHolds P o s id [] (.lit (.string b)) [] :=
 holds_pure fun g w a hr => by
  have h1 := hr x (by simp [ho, Op.operands])
  rw [hx] at h1
  have e1 := rep_lit_inv h1
  refine ⟨_, ?_, .lit _ rfl⟩
  simp [execOp, ho, e1, convert, run_underlying (strTy_sound hs), run_underlying (strTy_sound hd)]
theorem holds_index_str {t : TypeId} {x i : Operand} {b : ByteArray} {k : IntKind} {n : Int} {c : UInt8} (ho : o.op = .index t x i) (ht : strTy P t = true) (hx : aeval s x = .lit (.string b)) (hi : aeval s i = .lit (.int k n))
  (hn : 0 ≤ n) (hc : b.data.toList[n.toNat]? = some c) : OpHolds P o s id [] (.lit (.int .u8 c.toNat)) [] :=
 holds_pure fun g w a hr => by
  have h1 := hr x (by simp [ho, Op.operands])
  have h2 := hr i (by simp [ho, Op.operands])
  rw [hx] at h1
  rw [hi] at h2
  have e1 := rep_lit_inv h1
  have e2 := rep_lit_inv h2
  refine ⟨_, ?_, .lit _ rfl⟩
  have hb : b[n.toNat]? = some c := by
   have hl : n.toNat < b.data.toList.length := (List.getElem?_eq_some_iff.1 hc).1
   have hl' : n.toNat < b.size := by simpa using hl
   rw [getElem?_pos b n.toNat hl']
   have := (List.getElem?_eq_some_iff.1 hc).2
   rw [← this]
   rfl
  simp [execOp, ho, e1, e2, Instr.index, asIntOf, run_underlying (strTy_sound ht), hn, hb]
def aggDesc : TypeDesc → Bool
 | .struct _ | .array _ _ => true
 | _ => false
def tyIs (P : Program) (t : TypeId) (agg : Bool) (size : Nat) : Bool :=
 match P.underlying t, P.info? t with
 | some d, some i => aggDesc d == agg && i.size == size
 | _, _ => false
theorem tyIs_sound {t : TypeId} {agg : Bool} {size : Nat} (h : tyIs P t agg size = true) (w : World) : (isAgg t).run P w = .ok agg w ∧ (sizeOf t).run P w = .ok size w := by
 unfold tyIs at h
 split at h
 ·rename_i d i hd hi
  simp only [Bool.and_eq_true, beq_iff_eq] at h
  refine ⟨?_, by simp [sizeOf, typeInfo, hi, h.2]⟩
  rw [← h.1]
  unfold isAgg
  rw [Sem.run_bind, run_underlying hd]
  cases d <;> rfl
 ·cases h
def sizeIs (P : Program) (t : TypeId) (size : Nat) : Bool :=
 match P.info? t with
 | some i => i.size == size
 | _ => false
theorem sizeIs_sound {t : TypeId} {size : Nat} (h : sizeIs P t size = true) : ∃ i, P.info? t = some i ∧ i.size = size := by
 unfold sizeIs at h
 split at h
 ·rename_i i hi; exact ⟨i, hi, by simpa using h⟩
 ·cases h
def sliceTy (P : Program) (t : TypeId) : Option TypeId :=
 match P.underlying t with
 | some (.slice e) => some e
 | _ => none
theorem sliceTy_sound {t e : TypeId} (h : sliceTy P t = some e) : P.underlying t = some (.slice e) := by
 unfold sliceTy at h
 split at h
 ·cases h; assumption
 ·cases h
def arrTy (P : Program) (t : TypeId) : Option (Nat × TypeId) :=
 match P.underlying t with
 | some (.array n e) => some (n, e)
 | _ => none
theorem arrTy_sound {t e : TypeId} {n : Nat} (h : arrTy P t = some (n, e)) : P.underlying t = some (.array n e) := by
 unfold arrTy at h
 split at h
 ·cases h; assumption
 ·cases h
def fieldOff (P : Program) (t : TypeId) (f : Nat) : Option Nat :=
 match P.underlying t with
 | some (.struct fs) => match fs[f]? with
  | some fl => match P.info? fl.type with
   | some i => if i.size = 0 then none else some fl.offset
   | none => none
  | none => none
 | _ => none
theorem fieldOff_sound {t : TypeId} {f k : Nat} (h : fieldOff P t f = some k) (b off : Nat) (w : World) : (Instr.fieldAt t (.pointer (some ⟨b, off, none⟩)) f).run P w = .ok (.pointer (some ⟨b, off + k, none⟩)) w := by
 unfold fieldOff at h
 split at h
 ·rename_i fs hfs
  split at h
  ·rename_i fl hfl
   split at h
   ·rename_i i hi
    split at h <;> cases h
    rename_i hz
    simp [Instr.fieldAt, run_underlying hfs, hfl, Instr.sureAddr, fieldPlace, sizeOf, typeInfo, hi, hz, Addr.add_lit]
   ·cases h
  ·cases h
 ·cases h
theorem holds_fieldAddr_ptr {t : TypeId} {x : Operand} {f k i off : Nat} {path : List Nat} (ho : o.op = .fieldAddr t x f) (hx : aeval s x = .ptr i path off) (hf : fieldOff P t f = some k) :
  OpHolds P o s id [] (.ptr i (path ++ [f]) (off + k)) [] :=
 holds_pure fun g w a hr => by
  have h1 := hr x (by simp [ho, Op.operands])
  rw [hx] at h1
  generalize hv : a.eval x = v at h1
  cases h1 with
  | ptr _ _ _ b hb => exact ⟨_, by simp [execOp, ho, hv, fieldOff_sound hf], .ptr _ _ _ b hb⟩
theorem holds_fieldAddr_view {t : TypeId} {x : Operand} {f k : Nat} {xs : List AV} {y : AV} (ho : o.op = .fieldAddr t x f) (hx : aeval s x = .view (.agg xs)) (hf : fieldOff P t f = some k) (hy : xs[f]? = some y) (hk : AV.szl (xs.take f) = k) :
  OpHolds P o s id [] (.view y) [] :=
 holds_pure fun g w a hr => by
  have h1 := hr x (by simp [ho, Op.operands])
  rw [hx] at h1
  generalize hv : a.eval x = v at h1
  cases h1 with
  | view _ v b off h hc =>
   obtain ⟨u, hu, _, hcu⟩ := h.get (path := [f]) (y := y) (by simp [AV.get, hy])
   refine ⟨_, by simp [execOp, ho, hv, fieldOff_sound hf], .view y u b (off + k) hu fun j x hx => ?_⟩
   have := hc _ _ (hcu j x hx)
   simp only [AV.offs, hy, Nat.add_zero] at this
   rw [← this]; congr 1; omega
theorem holds_indexAddr_slice {t e : TypeId} {x i : Operand} {own : Option Nat} {xs : List AV} {y : AV} {k : IntKind} {n : Int} (ho : o.op = .indexAddr t x i) (ht : sliceTy P t = some e) (hx : AV.le (aeval s x) (.slice own xs)) (hi : aeval s i = .lit (.int k n))
  (hn : 0 ≤ n) (hy : xs[n.toNat]? = some y) (hs : sizeIs P e y.sz = true) : OpHolds P o s id [] (.view y) [] :=
 holds_read (fun p hp => (by cases hp)) fun W0 g σ nn w a hS hr _ => by
  have h1 := hx _ _ (hr x (by simp [ho, Op.operands]))
  have h2 := hr i (by simp [ho, Op.operands])
  rw [hi] at h2
  have e2 := rep_lit_inv h2
  generalize hv : a.eval x = v at h1
  obtain ⟨ie, hie, hsz⟩ := sizeIs_sound hs
  have hlt : n.toNat < xs.length := (List.getElem?_eq_some_iff.1 hy).1
  cases h1 with
  | slice _ _ vs A c size hl hc hm h hsv hcell hown =>
   have hvl : n.toNat < vs.length := by omega
   have hvi : vs[n.toNat]? = some vs[n.toNat] := List.getElem?_eq_getElem hvl
   have hry := h _ _ _ hy hvi
   have hsize : size = y.sz := by rw [← hsv _ (List.getElem_mem hvl), hry.size]
   subst hsize
   have hat := flat_at vs y.sz hsv n.toNat _ hvi
   have run : ∀ b o', A = some ⟨b, o', none⟩ → (execOp a.eval o).run P w = .ok (.value (.pointer (some ⟨b, o' + n.toNat * y.sz, none⟩))) w := fun b o' hA => by
    simp [execOp, ho, hv, e2, Instr.indexAt, asIntOf, run_underlying (sliceTy_sound ht), hA, sizeOf, typeInfo, hie, hsz, Addr.add_lit]
    omega
   rcases hcell with h0 | ⟨b, o', hA, hG⟩
   ·omega
   ·exact ⟨_, run b o' hA, .view y _ b _ hry fun j u hu => by have := hG _ _ (hat j u hu); rw [← this]; congr 1; omega⟩
end

section
variable {P : Program} {o : Oper} {s : Slots} {id : Nat}
theorem run_loadAt {g : Ghost} {y : AV} {u : Value} (hr : Rep g y u) {t : TypeId} (ht : tyIs P t y.isAgg y.sz = true) {b off : Nat} {w : World}
  (h : ∀ (j : Nat) (x : Value), u.cells.toList[j]? = some x → w.cell? ⟨b, off + j, none⟩ = some x) : (Instr.loadAt t (.pointer (some ⟨b, off, none⟩))).run P w = .ok u w := by
 obtain ⟨h1, h2⟩ := tyIs_sound ht w
 unfold Instr.loadAt loadVar
 simp only [Instr.sureAddr, Sem.run_bind, Sem.run_pure, Result.andThen_ok, h1]
 cases hy : y.isAgg with
 | true =>
  cases y <;> simp [AV.isAgg] at hy
  rename_i xs
  cases hr with
  | agg _ vs hl hr =>
   have hsz : (Value.agg (flat vs).toArray).cells.size = (AV.agg xs).sz := (Rep.agg xs vs hl hr).size
   have hlen : (flat vs).length = (AV.agg xs).sz := by simpa [cells_agg] using hsz
   have := run_loadCells_list (P := P) w ⟨b, off, none⟩ (flat vs) (fun j v hv => by rw [Addr.add_lit]; exact h j v (by simpa [cells_agg] using hv))
   rw [hlen] at this
   simp [h2, this]
 | false =>
  have hc : u.cells = #[u] := by
   cases hr <;> first | (simp [AV.isAgg] at hy; done) | rfl | (rename_i hv; exact oneCell_cells hv)
  have := h 0 u (by rw [hc]; rfl)
  simp at this
  simp [this]
theorem holds_load {t : TypeId} {x : Operand} {i off : Nat} {path : List Nat} {E : Ent} {bt : TypeId} {c y : AV} (ho : o.op = .load t x) (hx : aeval s x = .ptr i path off) (hE : E = .box bt c ∨ E = .fbox bt c) (hy : c.get path = some y) (hoff : c.offs path = off)
  (ht : tyIs P t y.isAgg y.sz = true) : OpHolds P o s id [(i, E)] y [] :=
 holds_read (fun p hp => by simp at hp; subst hp; rcases hE with rfl | rfl <;> simp) fun W0 g σ n w a hS hr hp => by
  have h1 := hr x (by simp [ho, Op.operands])
  rw [hx] at h1
  generalize hv : a.eval x = v at h1
  have hp' : σ i = E := hp (i, E) (by simp)
  cases h1 with
  | ptr _ _ _ b hb =>
   have key : ∃ v, Rep g c v ∧ w.heap[b]? = some (.cells v.cells bt (0, 0)) := by
    rcases hE with rfl | rfl
    ·obtain ⟨b', v, h1, _, h3, h4, _⟩ := hS.box i bt c hp'
     rw [hb] at h1; cases h1; exact ⟨v, h3, h4⟩
    ·obtain ⟨b', v, h1, _, h3, h4, _⟩ := hS.fbox i bt c hp'
     rw [hb] at h1; cases h1; exact ⟨v, h3, h4⟩
   obtain ⟨v, hrep, hheap⟩ := key
   obtain ⟨u, hu, _, hcu⟩ := hrep.get hy
   refine ⟨u, ?_, hu⟩
   have := run_loadAt (P := P) hu ht (b := b) (off := off) (w := w) fun j z hz => by
    rw [cell_of_row w b _ _ _ _ hheap, ← Array.getElem?_toList, ← hoff]
    exact hcu j z hz
   simp [execOp, ho, hv, this]
theorem holds_load_view {t : TypeId} {x : Operand} {y : AV} (ho : o.op = .load t x) (hx : aeval s x = .view y) (ht : tyIs P t y.isAgg y.sz = true) : OpHolds P o s id [] y [] :=
 holds_read (fun p hp => by cases hp) fun W0 g σ n w a hS hr _ => by
  have h1 := hr x (by simp [ho, Op.operands])
  rw [hx] at h1
  generalize hv : a.eval x = v at h1
  cases h1 with
  | view _ u b off hu hc =>
   refine ⟨u, ?_, hu⟩
   have := run_loadAt (P := P) hu ht (b := b) (off := off) (w := w) fun j z hz => hS.imm _ _ _ (hc j z hz)
   simp [execOp, ho, hv, this]
theorem run_storeAt {t : TypeId} {u : Value} {k : Nat} (ht : sizeIs P t k = true) (hk : u.cells.size = k) (h1 : ∀ z ∈ u.cells.toList, z.oneCell' = true) {b off : Nat} {w : World} {cur : Array Value} {bt : TypeId}
  (hg : w.heap[b]? = some (.cells cur bt (0, 0))) (hfit : off + u.cells.size ≤ cur.size) :
  (Instr.storeAt t (.pointer (some ⟨b, off, none⟩)) u).run P w = .ok () (w.setRow b (cur.toList.take off ++ u.cells.toList ++ cur.toList.drop (off + u.cells.size)).toArray) := by
 obtain ⟨i, hi, hs⟩ := sizeIs_sound ht
 have := run_storeCells_at P b off bt u.cells.toList 0 cur w hg (by simpa using hfit) h1
 simp only [Nat.add_zero, Array.length_toList] at this
 simp [Instr.storeAt, Instr.sureAddr, storeVar, sizeOf, typeInfo, hi, hs, hk, this]
theorem holds_store {t : TypeId} {x y : Operand} {i off : Nat} {path : List Nat} {bt : TypeId} {c old z : AV} (ho : o.op = .store t x y) (hx : aeval s x = .ptr i path off) (hz : aeval s y = z) (hy : c.get path = some old) (hoff : c.offs path = off)
  (hsz : old.sz = z.sz) (ht : sizeIs P t z.sz = true) (hc : z.cell = true) : OpHolds P o s id [(i, .box bt c)] (.tup []) [(i, .box bt (c.put path z))] := by
 refine ⟨fun p hp => by simp at hp; subst hp; simp, fun q hq => .inr ⟨(i, .box bt c), by simp, by simp at hq; subst hq; rfl⟩, fun W0 g σ n w a hS hr _ _ hp => ?_⟩
 have h1 := hr x (by simp [ho, Op.operands])
 have h2 := hr y (by simp [ho, Op.operands])
 rw [hx] at h1
 rw [hz] at h2
 generalize hv : a.eval x = v at h1
 generalize hu : a.eval y = u at h2
 have hp' : σ i = .box bt c := hp (i, .box bt c) (by simp)
 cases h1 with
 | ptr _ _ _ b hb =>
  obtain ⟨b', v, hb', _, hrep, hheap, _⟩ := hS.box i bt c hp'
  rw [hb] at hb'; cases hb'
  obtain ⟨u0, hu0, hub, _⟩ := hrep.get hy
  have husz : u0.cells.size = u.cells.size := by rw [hu0.size, h2.size, hsz]
  obtain ⟨v', hv', hvc⟩ := hrep.put hy h2 hsz
  have hst := run_storeAt (P := P) (u := u) ht h2.size (h2.cell_ok hc) (b := b) (off := off) hheap (by rw [← hoff, ← husz]; exact hub)
  have e1 : v'.cells = (v.cells.toList.take off ++ u.cells.toList ++ v.cells.toList.drop (off + u.cells.size)).toArray := by
   rw [← hoff, ← hvc]
  rw [← e1] at hst
  unfold runsTo
  have hexec : (execOp a.eval o).run P w = .ok .skip (w.setRow b v'.cells) := by simp [execOp, ho, hv, hu, hst]
  rw [hexec]
  exact ⟨g, g.le_refl, hS.store hp' hb hv', .tup [] [] rfl fun i x v h _ => by simp at h⟩
theorem holds_box {t : TypeId} {x : Operand} {z : AV} (ho : o.op = .box t x) (hx : aeval s x = z) : OpHolds P o s id [] (.ptr id [] 0) [(id, .box t z)] := by
 refine ⟨fun p hp => (by cases hp), fun q hq => .inl (by simp at hq; subst hq; rfl), fun W0 g σ n w a hS hr hf hn _ => ?_⟩
 have h1 := hr x (by simp [ho, Op.operands])
 rw [hx] at h1
 obtain ⟨g', hle, hS', hl⟩ := hS.newBox (t := t) hf hn h1
 unfold runsTo
 have hexec : (execOp a.eval o).run P w = .ok (.value (.pointer (some ⟨w.heap.size, 0, none⟩))) (w.alloc (.cells (a.eval x).cells t)) := by
  simp [execOp, ho, Instr.box, newVar, newRow]
 rw [hexec]
 exact ⟨g', hle, hS', .ptr id [] 0 _ hl⟩
theorem holds_alloc {t : TypeId} {z : AV} (ho : o.op = .alloc t) (hz : ztree P t = some z) : OpHolds P o s id [] (.ptr id [] 0) [(id, .box t z)] := by
 refine ⟨fun p hp => (by cases hp), fun q hq => .inl (by simp at hq; subst hq; rfl), fun W0 g σ n w a hS hr hf hn _ => ?_⟩
 obtain ⟨i, zv, hi, hzv, hrep⟩ := ztree_sound hz g
 obtain ⟨g', hle, hS', hl⟩ := hS.newBox (t := t) hf hn hrep
 unfold runsTo
 have hexec : (execOp a.eval o).run P w = .ok (.value (.pointer (some ⟨w.heap.size, 0, none⟩))) (w.alloc (.cells zv.cells t)) := by
  simp [execOp, ho, Instr.alloc, zeroValue, typeInfo, hi, hzv, newVar, newRow]
 rw [hexec]
 exact ⟨g', hle, hS', .ptr id [] 0 _ hl⟩
theorem holds_indexAddr_ptr {t e : TypeId} {x i : Operand} {j off len size : Nat} {path : List Nat} {k : IntKind} {n : Int} (ho : o.op = .indexAddr t x i) (ht : arrTy P t = some (len, e)) (hs : sizeIs P e size = true) (hx : aeval s x = .ptr j path off)
  (hi : aeval s i = .lit (.int k n)) (hn : 0 ≤ n) (hlt : n.toNat < len) : OpHolds P o s id [] (.ptr j (path ++ [n.toNat]) (off + n.toNat * size)) [] :=
 holds_pure fun g w a hr => by
  have h1 := hr x (by simp [ho, Op.operands])
  have h2 := hr i (by simp [ho, Op.operands])
  rw [hx] at h1
  rw [hi] at h2
  have e2 := rep_lit_inv h2
  generalize hv : a.eval x = v at h1
  obtain ⟨ie, hie, hsz⟩ := sizeIs_sound hs
  cases h1 with
  | ptr _ _ _ b hb =>
   refine ⟨_, ?_, .ptr _ _ _ b hb⟩
   have : n < (len : Int) := by omega
   simp [execOp, ho, hv, e2, Instr.indexAt, asIntOf, run_underlying (arrTy_sound ht), Instr.sureAddr, sizeOf, typeInfo, hie, hsz, Addr.add_lit, hn, this]
theorem holds_indexAddr_view {t e : TypeId} {x i : Operand} {len size : Nat} {xs : List AV} {y : AV} {k : IntKind} {n : Int} (ho : o.op = .indexAddr t x i) (ht : arrTy P t = some (len, e)) (hs : sizeIs P e size = true) (hx : aeval s x = .view (.agg xs))
  (hi : aeval s i = .lit (.int k n)) (hn : 0 ≤ n) (hlt : n.toNat < len) (hy : xs[n.toNat]? = some y) (hk : AV.szl (xs.take n.toNat) = n.toNat * size) : OpHolds P o s id [] (.view y) [] :=
 holds_pure fun g w a hr => by
  have h1 := hr x (by simp [ho, Op.operands])
  have h2 := hr i (by simp [ho, Op.operands])
  rw [hx] at h1
  rw [hi] at h2
  have e2 := rep_lit_inv h2
  generalize hv : a.eval x = v at h1
  obtain ⟨ie, hie, hsz⟩ := sizeIs_sound hs
  cases h1 with
  | view _ v b off h hc =>
   obtain ⟨u, hu, _, hcu⟩ := h.get (path := [n.toNat]) (y := y) (by simp [AV.get, hy])
   have : n < (len : Int) := by omega
   refine ⟨.pointer (some ⟨b, off + n.toNat * size, none⟩), ?_, .view y u b _ hu fun j x hx => ?_⟩
   ·simp [execOp, ho, hv, e2, Instr.indexAt, asIntOf, run_underlying (arrTy_sound ht), Instr.sureAddr, sizeOf, typeInfo, hie, hsz, Addr.add_lit, hn, this]
   ·have := hc _ _ (hcu j x hx)
    simp only [AV.offs, hy, Nat.add_zero, hk] at this
    rw [← this]; congr 1; omega
end

theorem foldl_set_list (cs : List Value) : ∀ (k off : Nat) (l : List Value), off + k + cs.length ≤ l.length →
  (cs.zipIdx k).foldl (fun (a : Array Value) (p : Value × Nat) => a.setIfInBounds (off + p.2) p.1) l.toArray = (l.take (off + k) ++ cs ++ l.drop (off + k + cs.length)).toArray := by
 induction cs with
 | nil => intro k off l _; simp
 | cons c r ih =>
  intro k off l hl
  simp only [List.length_cons] at hl
  rw [List.zipIdx_cons, List.foldl_cons]
  have e1 : (l.toArray.setIfInBounds (off + k) c) = (l.set (off + k) c).toArray := by simp
  rw [e1, ih (k + 1) off _ (by simp; omega)]
  congr 1
  have := list_seg_step l (off + k) c r (by omega)
  simp only [List.length_cons]
  rw [show off + (k + 1) = off + k + 1 from by omega]
  exact this
theorem fill_one (cells : Array Value) (v : Value) (off : Nat) (h : off + v.cells.size ≤ cells.size) :
  (v.cells.zipIdx.foldl (fun cs (p : Value × Nat) => cs.setIfInBounds (off + p.2) p.1) cells).toList = cells.toList.take off ++ v.cells.toList ++ cells.toList.drop (off + v.cells.size) := by
 rw [← Array.foldl_toList, Array.toList_zipIdx]
 have := foldl_set_list v.cells.toList 0 off cells.toList (by simpa using h)
 rw [Array.toArray_toList] at this
 rw [this]
 simp
def fillA (place : Nat → Option (Nat × Nat)) : List AV → List (Nat × AV) → Option (List AV)
 | zs, [] => some zs
 | zs, (i, z) :: r => match zs[i]? with
  | some y => if y.sz == z.sz && place i == some (AV.szl (zs.take i), z.sz) then fillA place (zs.set i z) r else none
  | none => none
theorem flat_set (vs : List Value) (i : Nat) (v u : Value) (hv : vs[i]? = some v) (hs : v.cells.size = u.cells.size) (off : Nat) (ho : (flat (vs.take i)).length = off) :
  flat (vs.set i u) = (flat vs).take off ++ u.cells.toList ++ (flat vs).drop (off + u.cells.size) := by
 have hi : i < vs.length := (List.getElem?_eq_some_iff.1 hv).1
 have e0 : flat vs = flat (vs.take i) ++ (v.cells.toList ++ flat (vs.drop (i + 1))) := by
  conv => lhs; rw [← List.take_append_drop i vs]
  rw [flat_append, List.drop_eq_getElem_cons hi, flat_cons, (List.getElem?_eq_some_iff.1 hv).2]
 have e1 : flat (vs.set i u) = flat (vs.take i) ++ (u.cells.toList ++ flat (vs.drop (i + 1))) := by
  have hlt' : i < (vs.set i u).length := by simpa using hi
  have tk : (vs.set i u).take i = vs.take i := by
   apply List.ext_getElem?
   intro j
   rw [List.getElem?_take, List.getElem?_take]
   split
   ·rw [List.getElem?_set_ne (by omega)]
   ·rfl
  rw [← List.take_append_drop i (vs.set i u), flat_append, List.drop_eq_getElem_cons hlt', flat_cons]
  simp [tk, List.drop_set_of_lt]
 rw [e1, e0, ← ho, ← hs, List.take_left, List.drop_length_add_append, ← Array.length_toList, List.drop_left]
 simp
theorem fillA_sound {g : Ghost} {place : Nat → Option (Nat × Nat)} : ∀ (parts : List (Nat × AV)) (vals : List (Nat × Value)) (zs ys : List AV) (vs : List Value) (cells : Array Value),
  fillA place zs parts = some ys → parts.length = vals.length → (∀ (i : Nat) (p : Nat × AV) (q : Nat × Value), parts[i]? = some p → vals[i]? = some q → p.1 = q.1 ∧ Rep g p.2 q.2) →
  vs.length = zs.length → (∀ (i : Nat) (x : AV) (v : Value), zs[i]? = some x → vs[i]? = some v → Rep g x v) → cells.toList = flat vs →
  ∃ (us : List Value) (cells' : Array Value), us.length = ys.length ∧ (∀ (i : Nat) (x : AV) (v : Value), ys[i]? = some x → us[i]? = some v → Rep g x v) ∧ cells'.toList = flat us ∧ Instr.fill place cells vals = some cells'
 | [], vals, zs, ys, vs, cells, h, hl, _, hvl, hr, hc => by
  have : vals = [] := List.eq_nil_of_length_eq_zero (by simpa using hl.symm)
  subst this
  simp only [fillA, Option.some.injEq] at h
  subst h
  exact ⟨vs, cells, hvl, hr, hc, rfl⟩
 | (i, z) :: r, [], _, _, _, _, _, hl, _, _, _, _ => by simp at hl
 | (i, z) :: r, (i', u) :: q, zs, ys, vs, cells, h, hl, hp, hvl, hr, hc => by
  obtain ⟨rfl, hzu⟩ := hp 0 (i, z) (i', u) rfl rfl
  simp only at hzu
  simp only [fillA] at h
  cases hy : zs[i]? with
  | none => rw [hy] at h; cases h
  | some y =>
   rw [hy] at h
   simp only [Bool.and_eq_true, beq_iff_eq] at h
   split at h
   ·rename_i hcnd
    have hlt : i < vs.length := by rw [hvl]; exact (List.getElem?_eq_some_iff.1 hy).1
    have hvi : vs[i]? = some vs[i] := List.getElem?_eq_getElem hlt
    have hyv := hr i y _ hy hvi
    have hsz : (vs[i]).cells.size = u.cells.size := by rw [hyv.size, hzu.size, hcnd.1]
    have hoff := (flat_take_drop zs vs hvl (fun j x w h1 h2 => (hr j x w h1 h2).size) i _ hvi)
    have hfit : AV.szl (zs.take i) + u.cells.size ≤ cells.size := by
     have hcl : cells.size = (flat vs).length := by rw [← hc]; simp
     rw [hcl, hoff.1, List.length_append, List.length_append, hoff.2, Array.length_toList, hsz]
     omega
    have h1 := fill_one cells u (AV.szl (zs.take i)) hfit
    have h2 := flat_set vs i _ u hvi hsz _ hoff.2
    rw [hc, ← h2] at h1
    obtain ⟨us, cells', k1, k2, k3, k4⟩ := fillA_sound r q (zs.set i z) ys (vs.set i u) _ h (by simpa using hl) (fun j a b ha hb => hp (j + 1) a b (by simpa using ha) (by simpa using hb)) (by simp [hvl])
     (fun j x w h1 h2 => by
      by_cases hj : j = i
      ·subst hj
       rw [List.getElem?_set_self (by omega)] at h1
       rw [List.getElem?_set_self hlt] at h2
       cases h1; cases h2; exact hzu
      ·rw [List.getElem?_set_ne (Ne.symm hj)] at h1 h2
       exact hr j x w h1 h2) h1
    refine ⟨us, cells', k1, k2, k3, ?_⟩
    simp only [Instr.fill, hcnd.2]
    rw [if_neg, k4]
    rw [hzu.size]
    have : u.cells.size = z.sz := hzu.size
    simp
    omega
   ·cases h
section
variable {P : Program} {o : Oper} {s : Slots} {id : Nat}
theorem parts_rep {g : Ghost} {a : Act} {parts : Array (Nat × Operand)} (hr : ∀ x ∈ (parts.toList.map (·.2)).toArray, Rep g (aeval s x) (a.eval x)) :
  ∀ (i : Nat) (p : Nat × AV) (q : Nat × Value), (parts.toList.map fun p => (p.1, aeval s p.2))[i]? = some p → ((parts.map fun (p : Nat × Operand) => (p.1, a.eval p.2)).toList)[i]? = some q → p.1 = q.1 ∧ Rep g p.2 q.2 := by
 intro i p q h1 h2
 rw [Array.toList_map, List.getElem?_map] at h2
 rw [List.getElem?_map] at h1
 cases hp : parts.toList[i]? with
 | none => rw [hp] at h1; cases h1
 | some x =>
  rw [hp] at h1 h2
  cases h1; cases h2
  exact ⟨rfl, hr x.2 (by simpa using ⟨x.1, by have := List.mem_of_getElem? hp; simpa using this⟩)⟩
def splaces (P : Program) (t : TypeId) : Option (List (Nat × Nat)) :=
 match P.underlying t with
 | some (.struct fs) => fs.toList.mapM fun f => (P.info? f.type).map fun i => (f.offset, i.size)
 | _ => none
theorem mapM_places (fs : List Field) (w : World) : ∀ pl, (fs.mapM fun f => (P.info? f.type).map fun i => (f.offset, i.size)) = some pl →
  (fs.mapM fun (f : Field) => (do pure (f.offset, ← sizeOf f.type) : Sem (Nat × Nat))).run P w = .ok pl w := by
 induction fs with
 | nil => intro pl h; simp at h; subst h; simp
 | cons f r ih =>
  intro pl h
  simp only [List.mapM_cons, Option.bind_eq_bind, Option.bind_eq_some_iff] at h
  obtain ⟨p, hp, q, hq, he⟩ := h
  simp only [Option.pure_def, Option.some.injEq] at he
  subst he
  cases hi : P.info? f.type with
  | none => rw [hi] at hp; cases hp
  | some i =>
   rw [hi] at hp
   cases hp
   have := ih q hq
   simp only [List.mapM_cons, Sem.run_bind, sizeOf, typeInfo, Sem.run_pure, run_program, Result.andThen_ok, hi] at this ⊢
   rw [this]
   rfl
theorem holds_build_struct {t : TypeId} {parts : Array (Nat × Operand)} {zs ys : List AV} {pl : List (Nat × Nat)} (ho : o.op = .build t parts) (hz : ztree P t = some (.agg zs)) (hp : splaces P t = some pl)
  (hf : fillA (fun (i : Nat) => pl[i]?) zs (parts.toList.map fun p => (p.1, aeval s p.2)) = some ys) : OpHolds P o s id [] (.agg ys) [] :=
 holds_pure fun g w a hr => by
  obtain ⟨i, zv, hi, hzv, hrep⟩ := ztree_sound hz g
  unfold splaces at hp
  split at hp
  ·rename_i fs hfs
   cases hrep with
   | agg _ vs hvl hvr =>
    obtain ⟨us, cells', k1, k2, k3, k4⟩ := fillA_sound _ ((parts.map fun (p : Nat × Operand) => (p.1, a.eval p.2)).toList) zs ys vs (flat vs).toArray hf (by simp) (parts_rep (by simpa [ho, Op.operands] using hr)) hvl hvr rfl
    refine ⟨.agg cells', ?_, ?_⟩
    ·have hm := mapM_places fs.toList w pl hp
     have hm' : (fs.mapM fun (f : Field) => (do pure (f.offset, ← sizeOf f.type) : Sem (Nat × Nat))).run P w = .ok pl.toArray w := by
      rw [Array.mapM_eq_mapM_toList]
      simp only [Sem.run_map, hm, Result.andThen_ok]
     have k4' : Instr.fill (fun (x : Nat) => pl.toArray[x]?) (flat vs).toArray (parts.map fun (p : Nat × Operand) => (p.1, a.eval p.2)).toList = some cells' := by
      have : (fun (x : Nat) => pl.toArray[x]?) = (fun (i : Nat) => pl[i]?) := by funext i; simp
      rw [this]; exact k4
     simp only [execOp, ho, Instr.build, Sem.run_bind, zeroValue, typeInfo, Sem.run_pure, run_program, Result.andThen_ok, hi, hzv, run_underlying hfs, hm', cells_agg]
     rw [k4']
     rfl
    ·have : cells' = (flat us).toArray := by rw [← k3]
     rw [this]
     exact .agg ys us k1 k2
  ·cases hp
theorem holds_build_array {t e : TypeId} {n size : Nat} {parts : Array (Nat × Operand)} {zs ys : List AV} (ho : o.op = .build t parts) (hz : ztree P t = some (.agg zs)) (ht : arrTy P t = some (n, e)) (hs : sizeIs P e size = true)
  (hf : fillA (fun i => some (i * size, size)) zs (parts.toList.map fun p => (p.1, aeval s p.2)) = some ys) : OpHolds P o s id [] (.agg ys) [] :=
 holds_pure fun g w a hr => by
  obtain ⟨i, zv, hi, hzv, hrep⟩ := ztree_sound hz g
  obtain ⟨ie, hie, hsz⟩ := sizeIs_sound hs
  cases hrep with
  | agg _ vs hvl hvr =>
   obtain ⟨us, cells', k1, k2, k3, k4⟩ := fillA_sound _ ((parts.map fun (p : Nat × Operand) => (p.1, a.eval p.2)).toList) zs ys vs (flat vs).toArray hf (by simp) (parts_rep (by simpa [ho, Op.operands] using hr)) hvl hvr rfl
   refine ⟨.agg cells', ?_, ?_⟩
   ·simp only [execOp, ho, Instr.build, Sem.run_bind, zeroValue, sizeOf, typeInfo, Sem.run_pure, run_program, Result.andThen_ok, hi, hie, hzv, run_underlying (arrTy_sound ht), cells_agg, hsz]
    rw [k4]
    rfl
   ·have : cells' = (flat us).toArray := by rw [← k3]
    rw [this]
    exact .agg ys us k1 k2
theorem flat_replicate (n : Nat) (z : Value) (size : Nat) (hz : z.cells.size = size) (hs : 0 < size) : ((Array.range (n * size)).map (z.cells[· % z.cells.size]!)).toList = flat (List.replicate n z) := by
 apply List.ext_getElem?
 intro j
 have hl : (flat (List.replicate n z)).length = n * size := by
  rw [flat_length _ size (fun v hv => by rw [List.eq_of_mem_replicate hv]; exact hz), List.length_replicate]
 by_cases hj : j < n * size
 ·have hdiv : j / size < n := Nat.div_lt_of_lt_mul (by rw [Nat.mul_comm]; exact hj)
  have hmod : j % size < size := Nat.mod_lt _ hs
  have h1 := flat_at (List.replicate n z) size (fun v hv => by rw [List.eq_of_mem_replicate hv]; exact hz) (j / size) z (by simp [hdiv]) (j % size) (z.cells[j % size]) (by simp)
  have h2 : j / size * size + j % size = j := by rw [Nat.mul_comm]; exact Nat.div_add_mod j size
  rw [h2] at h1
  rw [h1]
  simp [hj, hz, hmod]
 ·rw [List.getElem?_eq_none (by simp; omega), List.getElem?_eq_none (by omega)]
theorem rep_replicate {g : Ghost} {z : AV} {v : Value} (h : Rep g z v) (n : Nat) : ∀ (i : Nat) (x : AV) (u : Value), (List.replicate n z)[i]? = some x → (List.replicate n v)[i]? = some u → Rep g x u := by
 intro i x u h1 h2
 rw [List.getElem?_replicate] at h1 h2
 split at h1
 ·rename_i hi; rw [if_pos hi] at h2; cases h1; cases h2; exact h
 ·cases h1
theorem sizes_of {g : Ghost} {xs : List AV} {vs : List Value} {size : Nat} (hl : vs.length = xs.length) (hr : ∀ (i : Nat) (x : AV) (v : Value), xs[i]? = some x → vs[i]? = some v → Rep g x v) (hs : xs.all (fun x => x.sz == size) = true) :
  ∀ v ∈ vs, v.cells.size = size := by
 intro v hv
 obtain ⟨i, hi⟩ := List.getElem?_of_mem hv
 have hlt : i < xs.length := by rw [← hl]; exact (List.getElem?_eq_some_iff.1 hi).1
 rw [(hr i xs[i] v (List.getElem?_eq_getElem hlt) hi).size]
 have := List.all_eq_true.1 hs xs[i] (List.getElem_mem hlt)
 simpa using this
theorem holds_buildSlice {t e : TypeId} {len size : Nat} {parts : Array (Nat × Operand)} {ys : List AV} {z : AV} (ho : o.op = .buildSlice t len parts) (ht : sliceTy P t = some e) (hs : sizeIs P e size = true) (hz : ztree P e = some z) (hpos : 0 < size) (hzs : z.sz = size)
  (hlen : len * size ≤ 16777216) (hf : fillA (fun i => some (i * size, size)) (List.replicate len z) (parts.toList.map fun p => (p.1, aeval s p.2)) = some ys) (hys : ys.length = len) (hsz : ys.all (fun x => x.sz == size) = true) :
  OpHolds P o s id [] (.slice (some id) ys) [(id, .row e size len)] := by
 refine ⟨fun p hp => (by cases hp), fun q hq => .inl (by simp at hq; subst hq; rfl), fun W0 g σ n w a hS hr hf0 hn _ => ?_⟩
 obtain ⟨i, zv, hi, hzv, hrep⟩ := ztree_sound hz g
 obtain ⟨ie, hie, hsi⟩ := sizeIs_sound hs
 rw [hi] at hie; cases hie
 have hzc : zv.cells.size = size := by rw [hrep.size, hzs]
 have hcells : ((Array.range (len * size)).map ((if len * size = 0 then #[] else zv.cells)[· % (if len * size = 0 then #[] else zv.cells).size]!)).toList = flat (List.replicate len zv) := by
  by_cases h0 : len * size = 0
  ·have : len = 0 := by
    rcases Nat.mul_eq_zero.1 h0 with h | h
    ·exact h
    ·omega
   subst this
   simp [flat]
  ·rw [if_neg h0]; exact flat_replicate len zv size hzc hpos
 obtain ⟨us, cells', k1, k2, k3, k4⟩ := fillA_sound _ ((parts.map fun (p : Nat × Operand) => (p.1, a.eval p.2)).toList) (List.replicate len z) ys (List.replicate len zv) _ hf (by simp) (parts_rep (by simpa [ho, Op.operands] using hr)) (by simp) (rep_replicate hrep len) hcells
 have hus : ∀ v ∈ us, v.cells.size = size := sizes_of k1 k2 hsz
 have hfl : (flat us).length = len * size := by rw [flat_length us size hus, k1, hys]
 have hm : len ≤ maxLen := by
  have : len ≤ len * size := Nat.le_mul_of_pos_right _ hpos
  unfold maxLen; omega
 obtain ⟨g', hle, hS', hrow, hG⟩ := hS.newRow (e := e) (size := size) (m := len) (cells := flat us) hf0 hn cells' len hfl (Nat.le_refl _) hm (by rw [← Array.length_toList, k3, hfl]) (by rw [k3, List.take_of_length_le (by omega)])
 unfold runsTo
 have hexec : (execOp a.eval o).run P w = .ok (.value (.slice (some ⟨w.heap.size, 0, none⟩) len len)) (w.alloc (.cells cells' e)) := by
  have hbig : ¬ len * size > 2 ^ 24 := by omega
  simp only [execOp, ho, Instr.buildSlice, Sem.run_bind, run_underlying (sliceTy_sound ht), Result.andThen_ok, sizeOf, typeInfo, run_program, hi, Sem.run_pure, hsi, if_neg hbig]
  by_cases h0 : len * size = 0
  ·simp only [if_pos h0] at k4 ⊢
   simp only [Sem.run_bind, Sem.run_pure, Result.andThen_ok]
   rw [k4]
   rfl
  ·simp only [if_neg h0] at k4 ⊢
   simp only [Sem.run_bind, Sem.run_pure, Result.andThen_ok, zeroValue, typeInfo, run_program, hi, hzv]
   rw [k4]
   rfl
 rw [hexec]
 refine ⟨g', hle, hS', ?_⟩
 have := Rep.slice (g := g') (some id) ys us (some ⟨w.heap.size, 0, none⟩) len size k1 (by omega) hm (fun i x v h1 h2 => (k2 i x v h1 h2).mono hle) hus
  (.inr ⟨_, _, rfl, fun j u hu => by rw [Nat.zero_add, hG]; exact hu⟩) (fun id' hid => by cases hid; exact ⟨_, hrow, by simp [slen, hys], fun _ => by rw [hys]⟩)
 rw [hys] at this
 exact this
end

def bnd (s : Slots) (d : Nat) : Option Operand → Option Nat
 | none => some d
 | some x => match aeval s x with
  | .lit (.int _ n) => if 0 ≤ n then some n.toNat else none
  | _ => none
theorem flat_drop (vs : List Value) (size : Nat) (hs : ∀ v ∈ vs, v.cells.size = size) (l : Nat) : flat (vs.drop l) = (flat vs).drop (l * size) := by
 induction vs generalizing l with
 | nil => simp [flat]
 | cons v r ih =>
  cases l with
  | zero => simp
  | succ l =>
   have hv : v.cells.toList.length = size := by simpa using hs v (List.mem_cons_self ..)
   have e : (l + 1) * size = v.cells.toList.length + l * size := by rw [hv, Nat.add_mul]; omega
   rw [List.drop_succ_cons, ih (fun u hu => hs u (List.mem_cons_of_mem _ hu)), flat_cons, e, List.drop_length_add_append]
theorem flat_take (vs : List Value) (size : Nat) (hs : ∀ v ∈ vs, v.cells.size = size) (h : Nat) : flat (vs.take h) = (flat vs).take (h * size) := by
 induction vs generalizing h with
 | nil => simp [flat]
 | cons v r ih =>
  cases h with
  | zero => simp [flat]
  | succ h =>
   have hv : v.cells.toList.length = size := by simpa using hs v (List.mem_cons_self ..)
   have e : (h + 1) * size = v.cells.toList.length + h * size := by rw [hv, Nat.add_mul]; omega
   rw [List.take_succ_cons, flat_cons, ih (fun u hu => hs u (List.mem_cons_of_mem _ hu)), flat_cons, e, List.take_length_add_append]
section
variable {P : Program} {o : Oper} {s : Slots} {id : Nat}
theorem run_bnd {a : Act} {g : Ghost} {d : Nat} {lo : Option Operand} {l : Nat} (h : bnd s d lo = some l) (hr : ∀ x, lo = some x → Rep g (aeval s x) (a.eval x)) :
  (lo = none ∧ l = d) ∨ ∃ x k n, lo = some x ∧ a.eval x = .int k n ∧ 0 ≤ n ∧ n.toNat = l := by
 cases lo with
 | none => simp [bnd] at h; exact .inl ⟨rfl, h.symm⟩
 | some x =>
  have hx := hr x rfl
  simp only [bnd] at h
  split at h
  ·rename_i k n he
   rw [he] at hx
   split at h <;> cases h
   rename_i h0
   exact .inr ⟨x, k, n, rfl, rep_lit_inv hx, h0, rfl⟩
  ·cases h
theorem run_bounds {a : Act} {g : Ghost} {len cap l h : Nat} {lo hi : Option Operand} (hl : bnd s 0 lo = some l) (hh : bnd s len hi = some h) (hr : ∀ x, lo = some x → Rep g (aeval s x) (a.eval x)) (hr' : ∀ x, hi = some x → Rep g (aeval s x) (a.eval x))
  (h1 : l ≤ h) (h2 : h ≤ cap) (isS : Bool) (w : World) : (Instr.sliceBounds isS len cap (lo.map a.eval) (hi.map a.eval) none).run P w = .ok (l, h, cap) w := by
 rcases run_bnd hh hr' with ⟨rfl, rfl⟩ | ⟨x, k, n, rfl, he, h0, rfl⟩ <;> rcases run_bnd hl hr with ⟨rfl, rfl⟩ | ⟨x', k', n', rfl, he', h0', rfl⟩
 ·simp [Instr.sliceBounds]
 ·simp [Instr.sliceBounds, he', run_sliceBound w k' n' h _ h0' (by omega)]
 ·simp [Instr.sliceBounds, he, run_sliceBound w k n cap _ h0 (by omega)]
 ·simp [Instr.sliceBounds, he, he', run_sliceBound w k n cap _ h0 (by omega), run_sliceBound w k' n' n.toNat _ h0' (by omega)]
theorem Rep.sub {g : Ghost} {xs : List AV} {vs : List Value} {A : Option Addr} {c size l h : Nat} (hl : vs.length = xs.length) (hc : xs.length ≤ c) (hm : c ≤ maxLen) (hr : ∀ (i : Nat) (x : AV) (v : Value), xs[i]? = some x → vs[i]? = some v → Rep g x v)
  (hs : ∀ v ∈ vs, v.cells.size = size) (hcell : xs.length = 0 ∨ ∃ b o, A = some ⟨b, o, none⟩ ∧ ∀ (j : Nat) (u : Value), (flat vs)[j]? = some u → g.G b (o + j) = some u) (h1 : l ≤ h) (h2 : h ≤ xs.length) :
  Rep g (.slice none ((xs.take h).drop l)) (.slice (if c = l then A else A.map (·.add (l * size))) (h - l) (c - l)) := by
 have e : ((xs.take h).drop l).length = h - l := by simp; omega
 rw [← e]
 refine .slice none _ ((vs.take h).drop l) _ _ size (by simp [hl]) (by rw [e]; omega) (by omega) (fun i x v hx hv => ?_) (fun v hv => hs v (List.mem_of_mem_take (List.mem_of_mem_drop hv))) ?_ (fun id hid => by cases hid)
 ·rw [List.getElem?_drop, List.getElem?_take] at hx hv
  split at hx
  ·rename_i hlt; rw [if_pos hlt] at hv; exact hr _ x v hx hv
  ·cases hx
 ·rw [e]
  by_cases h0 : h - l = 0
  ·exact .inl h0
  ·rcases hcell with h' | ⟨b, o, rfl, hG⟩
   ·omega
   ·refine .inr ⟨b, o + l * size, by rw [if_neg (by omega)]; simp [Addr.add_lit], fun j u hu => ?_⟩
    rw [flat_drop _ size (fun v hv => hs v (List.mem_of_mem_take hv)), flat_take _ size hs, List.getElem?_drop, List.getElem?_take] at hu
    split at hu
    ·rw [Nat.add_assoc]; exact hG _ _ hu
    ·cases hu
theorem holds_slice_slice {t e : TypeId} {x : Operand} {lo hi : Option Operand} {own : Option Nat} {xs : List AV} {l h size : Nat} (ho : o.op = .slice t x lo hi none) (ht : sliceTy P t = some e) (hs : sizeIs P e size = true) (hx : AV.le (aeval s x) (.slice own xs))
  (hl : bnd s 0 lo = some l) (hh : bnd s xs.length hi = some h) (h1 : l ≤ h) (h2 : h ≤ xs.length) (hsz : xs.all (fun y => y.sz == size) = true) : OpHolds P o s id [] (.slice none ((xs.take h).drop l)) [] :=
 holds_pure fun g w a hr => by
  have h3 := hx _ _ (hr x (by simp [ho, Op.operands]))
  have hlo : ∀ x, lo = some x → Rep g (aeval s x) (a.eval x) := fun x hx => hr x (by simp [ho, Op.operands, hx])
  have hhi : ∀ x, hi = some x → Rep g (aeval s x) (a.eval x) := fun x hx => hr x (by simp [ho, Op.operands, hx])
  generalize hv : a.eval x = v at h3
  obtain ⟨ie, hie, hsi⟩ := sizeIs_sound hs
  cases h3 with
  | slice _ _ vs A c size' hvl hc hm hvr hvs hcell hown =>
   have hvs' := sizes_of hvl hvr hsz
   refine ⟨_, ?_, Rep.sub hvl hc hm hvr hvs' hcell h1 h2⟩
   have hb := run_bounds (P := P) hl hh hlo hhi h1 (by omega : h ≤ c) true w
   simp only [execOp, ho, Sem.run_bind, Instr.sliceAt, run_underlying (sliceTy_sound ht), Result.andThen_ok, hv, Instr.slice, Option.map_none, hb, sizeOf, typeInfo, run_program, hie, Sem.run_pure, hsi]
theorem holds_slice_nils {t e : TypeId} {x : Operand} {lo hi : Option Operand} {size : Nat} (ho : o.op = .slice t x lo hi none) (ht : sliceTy P t = some e) (hs : sizeIs P e size = true) (hx : aeval s x = .nils)
  (hl : bnd s 0 lo = some 0) (hh : bnd s 0 hi = some 0) : OpHolds P o s id [] .nils [] :=
 holds_pure fun g w a hr => by
  have h3 := hr x (by simp [ho, Op.operands])
  have hlo : ∀ x, lo = some x → Rep g (aeval s x) (a.eval x) := fun x hx => hr x (by simp [ho, Op.operands, hx])
  have hhi : ∀ x, hi = some x → Rep g (aeval s x) (a.eval x) := fun x hx => hr x (by simp [ho, Op.operands, hx])
  rw [hx] at h3
  generalize hv : a.eval x = v at h3
  obtain ⟨ie, hie, hsi⟩ := sizeIs_sound hs
  cases h3 with
  | nils =>
   refine ⟨_, ?_, .nils⟩
   have hb := run_bounds (P := P) hl hh hlo hhi (Nat.le_refl 0) (Nat.le_refl 0) true w
   simp only [execOp, ho, Sem.run_bind, Instr.sliceAt, run_underlying (sliceTy_sound ht), Result.andThen_ok, hv, Instr.slice, Option.map_none, hb, sizeOf, typeInfo, run_program, hie, Sem.run_pure]
   rfl
theorem holds_slice_str {t : TypeId} {x : Operand} {lo hi : Option Operand} {b : ByteArray} {l h : Nat} (ho : o.op = .slice t x lo hi none) (ht : strTy P t = true) (hx : aeval s x = .lit (.string b))
  (hl : bnd s 0 lo = some l) (hh : bnd s b.size hi = some h) (h1 : l ≤ h) (h2 : h ≤ b.size) : OpHolds P o s id [] (.lit (.string (b.extract l h))) [] :=
 holds_pure fun g w a hr => by
  have h3 := hr x (by simp [ho, Op.operands])
  have hlo : ∀ x, lo = some x → Rep g (aeval s x) (a.eval x) := fun x hx => hr x (by simp [ho, Op.operands, hx])
  have hhi : ∀ x, hi = some x → Rep g (aeval s x) (a.eval x) := fun x hx => hr x (by simp [ho, Op.operands, hx])
  rw [hx] at h3
  have e1 := rep_lit_inv h3
  refine ⟨_, ?_, .lit _ rfl⟩
  have hb := run_bounds (P := P) hl hh hlo hhi h1 h2 false w
  simp only [execOp, ho, Sem.run_bind, Instr.sliceAt, run_underlying (strTy_sound ht), Result.andThen_ok, e1, Instr.slice, Option.map_none, hb, Option.isSome_none, Bool.false_eq_true, if_false]
  rfl
theorem execOp_builtin {a : Act} {b : Builtin} {args : Array Operand} {ts : Array TypeId} (ho : o.op = .call { callee := .builtin b, args := args, argTypes := ts }) (w : World) :
  ∃ cs, (execOp a.eval o).run P w = (builtin b ts o.type cs (args.map a.eval)).run P w := by
 refine ⟨args.map fun | .const _ => true | _ => false, ?_⟩
 simp only [execOp, ho, resolve, invoke, Sem.run_bind, Sem.run_pure, Result.andThen_ok]
 rfl
theorem holds_len_slice {t e : TypeId} {x : Operand} {own : Option Nat} {xs : List AV} (ho : o.op = .call { callee := .builtin .len, args := #[x], argTypes := #[t] }) (ht : sliceTy P t = some e) (hx : AV.le (aeval s x) (.slice own xs)) :
  OpHolds P o s id [] (.lit (.int .i64 xs.length)) [] :=
 holds_pure fun g w a hr => by
  have h3 := hx _ _ (hr x (by simp [ho, Op.operands, Call.operands]))
  generalize hv : a.eval x = v at h3
  cases h3 with
  | slice _ _ vs A c size' hvl hc hm hvr hvs hcell hown =>
   obtain ⟨cs, he⟩ := execOp_builtin (P := P) (a := a) ho w
   refine ⟨_, ?_, .lit _ rfl⟩
   rw [he]
   simp [builtin, Builtin.len_, run_underlying (sliceTy_sound ht), hv, goInt]
theorem holds_len_nils {t e : TypeId} {x : Operand} (ho : o.op = .call { callee := .builtin .len, args := #[x], argTypes := #[t] }) (ht : sliceTy P t = some e) (hx : aeval s x = .nils) :
  OpHolds P o s id [] (.lit (.int .i64 0)) [] :=
 holds_pure fun g w a hr => by
  have h3 := hr x (by simp [ho, Op.operands, Call.operands])
  rw [hx] at h3
  generalize hv : a.eval x = v at h3
  cases h3 with
  | nils =>
   obtain ⟨cs, he⟩ := execOp_builtin (P := P) (a := a) ho w
   refine ⟨_, ?_, .lit _ rfl⟩
   rw [he]
   simp [builtin, Builtin.len_, run_underlying (sliceTy_sound ht), hv, goInt]
theorem holds_len_str {t : TypeId} {x : Operand} {b : ByteArray} (ho : o.op = .call { callee := .builtin .len, args := #[x], argTypes := #[t] }) (ht : strTy P t = true) (hx : aeval s x = .lit (.string b)) :
  OpHolds P o s id [] (.lit (.int .i64 b.size)) [] :=
 holds_pure fun g w a hr => by
  have h3 := hr x (by simp [ho, Op.operands, Call.operands])
  rw [hx] at h3
  have e1 := rep_lit_inv h3
  obtain ⟨cs, he⟩ := execOp_builtin (P := P) (a := a) ho w
  refine ⟨_, ?_, .lit _ rfl⟩
  rw [he]
  simp only [builtin, List.map_toArray, List.map_cons, List.map_nil, e1]
  simp [Builtin.len_, run_underlying (strTy_sound ht), goInt]
theorem holds_min {ts : Array TypeId} {x y : Operand} {k k' : IntKind} {m n : Int} (ho : o.op = .call { callee := .builtin .min, args := #[x, y], argTypes := ts }) (hx : aeval s x = .lit (.int k m)) (hy : aeval s y = .lit (.int k' n)) :
  OpHolds P o s id [] (.lit (.int k (if n < m then n else m))) [] :=
 holds_pure fun g w a hr => by
  have h1 := hr x (by simp [ho, Op.operands, Call.operands])
  have h2 := hr y (by simp [ho, Op.operands, Call.operands])
  rw [hx] at h1
  rw [hy] at h2
  have e1 := rep_lit_inv h1
  have e2 := rep_lit_inv h2
  obtain ⟨cs, he⟩ := execOp_builtin (P := P) (a := a) ho w
  refine ⟨_, ?_, .lit _ rfl⟩
  rw [he]
  simp only [builtin, List.map_toArray, List.map_cons, List.map_nil, e1, e2]
  simp [Builtin.min_, Builtin.min2]
theorem holds_max {ts : Array TypeId} {x y : Operand} {k k' : IntKind} {m n : Int} (ho : o.op = .call { callee := .builtin .max, args := #[x, y], argTypes := ts }) (hx : aeval s x = .lit (.int k m)) (hy : aeval s y = .lit (.int k' n)) :
  OpHolds P o s id [] (.lit (.int k (if n > m then n else m))) [] :=
 holds_pure fun g w a hr => by
  have h1 := hr x (by simp [ho, Op.operands, Call.operands])
  have h2 := hr y (by simp [ho, Op.operands, Call.operands])
  rw [hx] at h1
  rw [hy] at h2
  have e1 := rep_lit_inv h1
  have e2 := rep_lit_inv h2
  obtain ⟨cs, he⟩ := execOp_builtin (P := P) (a := a) ho w
  refine ⟨_, ?_, .lit _ rfl⟩
  rw [he]
  simp only [builtin, List.map_toArray, List.map_cons, List.map_nil, e1, e2]
  simp [Builtin.max_, Builtin.max2]
theorem run_storeCells_fz (g o : Nat) (t : TypeId) (fz : Nat × Nat) : ∀ (vs : List Value) (i : Nat) (cur : Array Value) (w : World), w.heap[g]? = some (.cells cur t fz) → noFz fz cur.size → o + i + vs.length ≤ cur.size → (∀ v ∈ vs, v.oneCell' = true) →
  (storeCells ⟨g, o, none⟩ vs i).run P w = .ok () (w.setRow g (cur.toList.take (o + i) ++ vs ++ cur.toList.drop (o + i + vs.length)).toArray)
 | [], i, cur, w, hg, _, _, _ => by
  simp only [storeCells, List.append_nil, List.length_nil, Nat.add_zero, List.take_append_drop, Array.toArray_toList]
  rw [setRow_self w g cur t fz hg]
  rfl
 | v :: rest, i, cur, w, hg, hz, hl, h1 => by
  have hi : o + i < cur.size := by simp at hl; omega
  have hadd : (⟨g, o, none⟩ : Addr).add i = ⟨g, o + i, none⟩ := by unfold Addr.add; split <;> simp_all
  have hcell : w.cell? ⟨g, o + i, none⟩ = some cur[o + i] := by simp [World.cell?, hg, hi]
  have hfro : w.frozen? ⟨g, o + i, none⟩ = false := by
   have := hz.at (o + i) hi
   simp only [World.frozen?, hg]
   exact this
  have hst : (store ((⟨g, o, none⟩ : Addr).add i) v).run P w = .ok () (w.setRow g (cur.setIfInBounds (o + i) v)) := by
   rw [hadd, run_store P w _ v _ (h1 v (by simp)), hcell]
   simp [hfro, setCell_eq_setRow w g (o + i) cur t fz v hg]
  have ih := run_storeCells_fz g o t fz rest (i + 1) (cur.setIfInBounds (o + i) v) (w.setRow g (cur.setIfInBounds (o + i) v)) (setRow_heap w g cur _ t _ hg) (by simpa using hz) (by simp at hl ⊢; omega) (fun x hx => h1 x (by simp [hx]))
  simp only [storeCells, Sem.run_bind, hst, Result.andThen_ok, ih, setRow_setRow]
  congr 3
  have e := list_seg_step cur.toList (o + i) v rest (by simp at hl ⊢; omega)
  simpa [Array.toList_setIfInBounds, Nat.add_assoc] using e
theorem run_append_roomF (w : World) (t ty e : TypeId) (i : TypeInfo) (ht : P.underlying t = some (.slice e)) (hi : P.info? e = some i)
  (g sLen sCap : Nat) (cur : Array Value) (fz : Nat × Nat) (hg : w.heap[g]? = some (.cells cur e fz)) (hz : noFz fz cur.size)
  (a : Addr) (m c : Nat) (news : List Value) (hl : news.length = m * i.size) (hnews : ∀ (j : Nat) (u : Value), news[j]? = some u → w.cell? (a.add j) = some u) (h1 : ∀ u ∈ news, u.oneCell' = true)
  (hroom : sLen + m ≤ sCap) (hfit : sLen * i.size + news.length ≤ cur.size) :
  (Builtin.append_ #[t, t] ty #[.slice (some ⟨g, 0, none⟩) sLen sCap, .slice (some a) m c]).run P w =
   .ok (.slice (some ⟨g, 0, none⟩) (sLen + m) sCap) (w.setRow g (cur.toList.take (sLen * i.size) ++ news ++ cur.toList.drop (sLen * i.size + news.length)).toArray) := by
 have hf := run_firstCells_some (P := P) w i.size m a m c news hl hnews
 have hst := run_storeCells_fz (P := P) g (sLen * i.size) e fz news 0 cur w hg hz (by simpa using hfit) h1
 simp only [Nat.add_zero] at hst
 simp [Builtin.append_, run_underlying ht, sizeOf, typeInfo, hi, Builtin.lenOf, hroom, hf, Addr.add_lit, hst]
theorem run_append_row {w : World} {base : Nat} {t ty e : TypeId} {i : TypeInfo} {z : Value} (ht : P.underlying t = some (.slice e)) (hi : P.info? e = some i) (hz : i.zero = some z) (hzs : z.cells.size = i.size)
  {v : Value} {n : Nat} {xs : List Value} (hown : ownsR w base e i.size v n xs) {a : Addr} {m c : Nat} {news : List Value} (hl : news.length = m * i.size) (hnews : ∀ (j : Nat) (u : Value), news[j]? = some u → w.cell? (a.add j) = some u) (h1 : ∀ u ∈ news, u.oneCell' = true)
  (hm : 0 < m) (hbytes : (n + m) * i.bytes ≤ 140737488355328) (h63 : n + m ≤ maxLen) (hbase : base ≤ w.heap.size) :
  ∃ v' w', (Builtin.append_ #[t, t] ty #[v, .slice (some a) m c]).run P w = .ok v' w' ∧ ownsR w' base e i.size v' (n + m) (xs ++ news) ∧ slen v' = n + m ∧ w'.os = w.os ∧ w'.tape = w.tape ∧ w'.output = w.output ∧ w.heap.size ≤ w'.heap.size ∧
   ((0 < m ∧ v'.ownBlock = v.ownBlock ∧ ∀ j, v.ownBlock ≠ some j → j < w.heap.size → w'.heap[j]? = w.heap[j]?) ∨ (0 < m ∧ v'.ownBlock = some w.heap.size ∧ ∀ j, j < w.heap.size → w'.heap[j]? = w.heap[j]?)) := by
 have hsmall : n + m ≤ 9223372036854775807 := by simp only [maxLen] at h63; omega
 have hlen : (xs ++ news).length = (n + m) * i.size := by rw [List.length_append, hown.1, hl, Nat.add_mul]
 have grown : ∀ (old : Nat), old < n + m →
   ownsR (w.drew.alloc (.cells (xs.toArray ++ news.toArray ++ Builtin.zeroCells z.cells (grownCap w (n + m) old e - (n + m))) e)) base e i.size
    (.slice (some ⟨w.heap.size, 0, none⟩) (n + m) (grownCap w (n + m) old e)) (n + m) (xs ++ news) := by
  intro old _
  have hge := grownCap_ge w (n + m) old e
  have hcm : grownCap w (n + m) old e ≤ maxLen := grownCap_le_maxLen w (n + m) old e h63
  refine ⟨hlen, .inr ⟨w.heap.size, _, _, (0, 0), rfl, hbase, heap_alloc_new w.drew _, noFz_zero _, hge, hcm, ?_, ?_⟩⟩
  ·simp only [Array.size_append, List.size_toArray, size_zeroCells, hzs, hown.1, hl, ← Nat.add_mul]
   congr 1
   omega
  ·simp only [Array.toList_append, List.append_assoc]
   rw [← List.append_assoc, ← hlen]
   exact List.take_left
 have oldkept : ∀ o' j, j < w.heap.size → (w.drew.alloc o').heap[j]? = w.heap[j]? := fun o' j hj => heap_alloc_old w.drew o' j hj
 rcases hown.2 with ⟨rfl, rfl⟩ | ⟨g, cap, cur, fz, rfl, hbg, hg, hfz, hnc, hcm, hcs, htake⟩
 ·have hx : xs = [] := List.eq_nil_of_length_eq_zero (by simpa using hown.1)
  subst hx
  have hr := run_append_nil (P := P) w t ty e i z ht hi hz a m c news hl hnews hm (by omega) (by have hb := hbytes; simp only [Nat.zero_add] at hb; omega)
  have hgr := grown 0 (by omega)
  simp only [Nat.zero_add, List.nil_append, Array.empty_append] at hgr ⊢
  exact ⟨_, _, hr, hgr, rfl, rfl, rfl, rfl, by simp, .inr ⟨hm, rfl, oldkept _⟩⟩
 ·by_cases hroom : n + m ≤ cap
  ·have hfit : n * i.size + news.length ≤ cur.size := by rw [hl, hcs, ← Nat.add_mul]; exact Nat.mul_le_mul_right _ hroom
   have hr := run_append_roomF (P := P) w t ty e i ht hi g n cap cur fz hg hfz a m c news hl hnews h1 hroom hfit
   have hcz : (cur.toList.take (n * i.size) ++ news ++ cur.toList.drop (n * i.size + news.length)).toArray.size = cur.size := by
    simp only [List.size_toArray, List.length_append, List.length_take, List.length_drop, Array.length_toList]
    omega
   refine ⟨_, _, hr, ⟨hlen, .inr ⟨g, cap, _, fz, rfl, hbg, setRow_heap w g cur _ e _ hg, by rw [hcz]; exact hfz, hroom, hcm, ?_, ?_⟩⟩, rfl, rfl, rfl, rfl, by simp [World.setRow], .inl ⟨hm, rfl, fun k hk _ => setRow_other w g k _ (fun e => hk (by simp [Value.ownBlock, e]))⟩⟩
   ·simp only [List.size_toArray, List.length_append, List.length_take, List.length_drop, Array.length_toList]
    omega
   ·rw [htake, ← hlen]
    exact List.take_left
  ·have holds : ∀ j u, xs[j]? = some u → w.cell? ((⟨g, 0, none⟩ : Addr).add j) = some u := fun j u hu => by rw [Addr.add_lit, Nat.zero_add]; exact hown.cells (g := g) rfl j u hu
   have hr := run_append_grow (P := P) w t ty e i z ht hi hz ⟨g, 0, none⟩ n cap xs hown.1 holds a m c news hl hnews (by omega) (by omega) (growslice_fits (by omega) hbytes)
   exact ⟨_, _, hr, grown cap (by omega), rfl, rfl, rfl, rfl, by simp, .inr ⟨hm, rfl, oldkept _⟩⟩
theorem run_append_full {w : World} {base : Nat} {t ty e : TypeId} {i : TypeInfo} {z : Value} (ht : P.underlying t = some (.slice e)) (hi : P.info? e = some i) (hz : i.zero = some z) (hzs : z.cells.size = i.size)
  {A : Addr} {n : Nat} {xs : List Value} (hxl : xs.length = n * i.size) (hxc : ∀ (j : Nat) (u : Value), xs[j]? = some u → w.cell? (A.add j) = some u) {a : Addr} {m c : Nat} {news : List Value} (hl : news.length = m * i.size) (hnews : ∀ (j : Nat) (u : Value), news[j]? = some u → w.cell? (a.add j) = some u)
  (hm : 0 < m) (hbytes : (n + m) * i.bytes ≤ 140737488355328) (h63 : n + m ≤ maxLen) (hbase : base ≤ w.heap.size) :
  ∃ v' w', (Builtin.append_ #[t, t] ty #[.slice (some A) n n, .slice (some a) m c]).run P w = .ok v' w' ∧ ownsR w' base e i.size v' (n + m) (xs ++ news) ∧ slen v' = n + m ∧ w'.os = w.os ∧ w'.tape = w.tape ∧ w'.output = w.output ∧ w.heap.size ≤ w'.heap.size ∧
   (0 < m ∧ v'.ownBlock = some w.heap.size ∧ ∀ j, j < w.heap.size → w'.heap[j]? = w.heap[j]?) := by
 have hsmall : n + m ≤ 9223372036854775807 := by simp only [maxLen] at h63; omega
 have hlen : (xs ++ news).length = (n + m) * i.size := by rw [List.length_append, hxl, hl, Nat.add_mul]
 have hge := grownCap_ge w (n + m) n e
 have hcm : grownCap w (n + m) n e ≤ maxLen := grownCap_le_maxLen w (n + m) n e h63
 have hr := run_append_grow (P := P) w t ty e i z ht hi hz A n n xs hxl hxc a m c news hl hnews (by omega) (by omega) (growslice_fits (by omega) hbytes)
 refine ⟨_, _, hr, ⟨hlen, .inr ⟨w.heap.size, _, _, (0, 0), rfl, hbase, heap_alloc_new w.drew _, noFz_zero _, hge, hcm, ?_, ?_⟩⟩, rfl, rfl, rfl, rfl, by simp, hm, rfl, fun j hj => heap_alloc_old w.drew _ j hj⟩
 ·simp only [Array.size_append, List.size_toArray, size_zeroCells, hzs, hxl, hl, ← Nat.add_mul]
  congr 1
  omega
 ·simp only [Array.toList_append, List.append_assoc]
  rw [← List.append_assoc, ← hlen]
  exact List.take_left
theorem run_append_none' {w : World} {t ty e : TypeId} {i : TypeInfo} (ht : P.underlying t = some (.slice e)) (hi : P.info? e = some i)
  {B : Option Addr} {n cap : Nat} (hnc : n ≤ cap) {A : Option Addr} {c : Nat} : (Builtin.append_ #[t, t] ty #[.slice B n cap, .slice A 0 c]).run P w = .ok (.slice B n cap) w := by
 cases A <;> cases B <;> simp [Builtin.append_, run_underlying ht, sizeOf, typeInfo, hi, Builtin.lenOf, Builtin.firstCells, hnc, storeCells, loadCells, loadCellsFrom]
theorem run_append_none {w : World} {base : Nat} {t ty e : TypeId} {i : TypeInfo} (ht : P.underlying t = some (.slice e)) (hi : P.info? e = some i)
  {v : Value} {n : Nat} {xs : List Value} (hown : ownsR w base e i.size v n xs) {A : Option Addr} {c : Nat} : (Builtin.append_ #[t, t] ty #[v, .slice A 0 c]).run P w = .ok v w := by
 rcases hown.2 with ⟨rfl, rfl⟩ | ⟨g, cap, cur, fz, rfl, _, _, _, hnc, _⟩
 ·cases A <;> simp [Builtin.append_, run_underlying ht, sizeOf, typeInfo, hi, Builtin.lenOf, Builtin.firstCells, loadCells, loadCellsFrom]
 ·cases A <;> simp [Builtin.append_, run_underlying ht, sizeOf, typeInfo, hi, Builtin.lenOf, Builtin.firstCells, hnc, storeCells, loadCells, loadCellsFrom]
theorem Sim.ofClip {W0 : World} {g : Ghost} {σ : Nat → Ent} {n : Nat} {w : World} (hS : Sim W0 g σ n w) {k : Nat} {e : TypeId} {size : Nat} {xs : List AV} {A : Option Addr} {m : Nat} (hk : σ k = .none) (hn : k < n) (hr : Rep g (.slice none xs) (.slice A m m)) (hsx : xs.all (fun x => x.sz == size) = true) :
  ∃ g', g.le g' ∧ Sim W0 g' (upd σ k (.row e size xs.length)) n w ∧ g'.row k = some (.slice A m m) ∧ Rep g' (.slice (some k) xs) (.slice A m m) := by
 cases hr with
 | slice _ _ vs _ _ size' hvl hc hm hvr hvs hcell hown =>
  have hvs' := sizes_of hvl hvr hsx
  have done : ∀ g', g.le g' → g'.row k = some (.slice A xs.length xs.length) → Rep g' (.slice (some k) xs) (.slice A xs.length xs.length) := fun g' hle hrow =>
   .slice (some k) xs vs A _ size hvl hc hm (fun i x v h1 h2 => (hvr i x v h1 h2).mono hle) hvs' (hcell.imp (fun h => h) (fun ⟨b, o, h1, h2⟩ => ⟨b, o, h1, fun j u hu => hle.G _ _ _ (h2 j u hu)⟩)) (fun id hid => by cases hid; exact ⟨_, hrow, by simp [slen], fun _ => rfl⟩)
  rcases hcell with h0 | ⟨b, o, rfl, hcell⟩
  ·cases A with
   | none =>
    obtain ⟨g', h1, h2, h3, _⟩ := hS.addRow (k := k) (e := e) (size := size) (m := 0) (u := .slice none 0 0) (cells := []) hk hn (ownsR_nil w _ e size) rfl (fun b hb => by simp [Value.ownBlock] at hb) (fun b hb => by simp [Value.ownBlock] at hb)
    rw [h0] at *
    exact ⟨g', h1, h2, h3, by rw [h0] at done; exact done g' h1 h3⟩
   | some ad =>
    obtain ⟨g', h1, h2, h3⟩ := hS.addClip (k := k) (e := e) (size := size) (m := xs.length) (A := ad) (cells := []) hk hn (by simp [h0]) hm (fun j v h => by simp at h)
    exact ⟨g', h1, h2, h3, done g' h1 h3⟩
  ·obtain ⟨g', h1, h2, h3⟩ := hS.addClip (k := k) (e := e) (size := size) (m := xs.length) (A := ⟨b, o, none⟩) (cells := flat vs) hk hn (by rw [flat_length vs size hvs', hvl]) hm (fun j v hv => ⟨rfl, hcell j v hv⟩)
   exact ⟨g', h1, h2, h3, done g' h1 h3⟩
def AV.elems : AV → Option (List AV)
 | .nils => some []
 | .slice _ xs => some xs
 | .clip xs => some xs
 | .lit (.slice _ 0 _) => some []
 | _ => none
def bytesIs (P : Program) (e : TypeId) (bytes : Nat) : Bool :=
 match P.info? e with
 | some i => i.bytes == bytes
 | _ => false
theorem elems_vals {g : Ghost} {size : Nat} {Y : AV} {y : Value} {ys : List AV} (hY : Y.elems = some ys) (hry : Rep g Y y) (hsy : ys.all (fun x => x.sz == size) = true) :
  ∃ A m c, ∃ us : List Value, y = .slice A m c ∧ m = ys.length ∧ us.length = ys.length ∧ (∀ (i : Nat) (x : AV) (v : Value), ys[i]? = some x → us[i]? = some v → Rep g x v) ∧ (∀ v ∈ us, v.cells.size = size) ∧
   (ys.length = 0 ∨ ∃ b o, A = some ⟨b, o, none⟩ ∧ ∀ (j : Nat) (u : Value), (flat us)[j]? = some u → g.G b (o + j) = some u) := by
 cases hry <;> simp [AV.elems] at hY
 case lit hv =>
  split at hY
  ·rename_i h; simp at h
  ·rename_i h; simp at h
  ·rename_i h; simp at h
  ·rename_i A c h
   simp at h hY
   subst h; subst hY
   exact ⟨A, 0, c, [], rfl, rfl, rfl, fun i x v h _ => by simp at h, fun v hv => by simp at hv, .inl rfl⟩
  ·cases hY
 case nils =>
  subst hY
  exact ⟨none, 0, 0, [], rfl, rfl, rfl, fun i x v h _ => by simp at h, fun v hv => by simp at hv, .inl rfl⟩
 case clip xs' A n hcl =>
  subst hY
  cases hcl with
  | slice _ _ us _ _ size' hvl hc hm hvr hvs hcell hown' =>
   exact ⟨A, _, _, us, rfl, rfl, hvl, hvr, sizes_of hvl hvr hsy, hcell⟩
 case slice own xs' us A c size' hvl hc hm hvr hvs hcell hown' =>
  subst hY
  exact ⟨A, _, c, us, rfl, rfl, hvl, hvr, sizes_of hvl hvr hsy, hcell⟩
theorem append_gen {e : TypeId} {size k : Nat} {z : AV} (hs : sizeIs P e size = true) (hz : ztree P e = some z) (hzs : z.sz = size)
  {W0 : World} {g : Ghost} {σ : Nat → Ent} {n : Nat} {w : World} {r : Nat} {u : Value} {xs ys : List AV} {us : List Value} {R : Value → World → Prop} (hS : Sim W0 g σ n w) (hx : σ r = .row e size k) (hu : g.row r = some u) (hk : xs.length = k)
  (hru : xs.length = 0 ∨ Rep g (.slice (some r) xs) u) (hsx : xs.all (fun x => x.sz == size) = true)
  (hul : us.length = ys.length) (hur : ∀ (i : Nat) (x : AV) (v : Value), ys[i]? = some x → us[i]? = some v → Rep g x v) (hus : ∀ v ∈ us, v.cells.size = size)
  (h0 : ys.length = 0 → (∃ A c, u = .slice A k c ∧ k ≤ c) → R u w)
  (hown : ∀ (i : TypeInfo) (zv : Value) (cells : List Value), P.info? e = some i → i.zero = some zv → i.size = size → zv.cells.size = i.size → Rep g z zv → ownsR w W0.heap.size e i.size u k cells → 0 < ys.length → ∃ u' w', R u' w' ∧ ownsR w' W0.heap.size e i.size u' (k + ys.length) (cells ++ flat us) ∧ slen u' = k + ys.length ∧ w'.os = w.os ∧ w'.tape = w.tape ∧ w'.output = w.output ∧ w.heap.size ≤ w'.heap.size ∧
   ((0 < ys.length ∧ u'.ownBlock = u.ownBlock ∧ ∀ j, u.ownBlock ≠ some j → j < w.heap.size → w'.heap[j]? = w.heap[j]?) ∨ (0 < ys.length ∧ u'.ownBlock = some w.heap.size ∧ ∀ j, j < w.heap.size → w'.heap[j]? = w.heap[j]?)))
  (hfull : ∀ (i : TypeInfo) (zv : Value) (A : Addr) (cells : List Value), P.info? e = some i → i.zero = some zv → i.size = size → zv.cells.size = i.size → Rep g z zv → u = .slice (some A) k k → cells.length = k * i.size → (∀ (j : Nat) (v : Value), cells[j]? = some v → w.cell? (A.add j) = some v) → 0 < ys.length → ∃ u' w', R u' w' ∧ ownsR w' W0.heap.size e i.size u' (k + ys.length) (cells ++ flat us) ∧ slen u' = k + ys.length ∧ w'.os = w.os ∧ w'.tape = w.tape ∧ w'.output = w.output ∧ w.heap.size ≤ w'.heap.size ∧
   (0 < ys.length ∧ u'.ownBlock = some w.heap.size ∧ ∀ j, j < w.heap.size → w'.heap[j]? = w.heap[j]?)) :
  ∃ u' w' g', R u' w' ∧ g.le g' ∧ Sim W0 g' (upd σ r (.row e size (k + ys.length))) n w' ∧ Rep g' (.slice (some r) (xs ++ ys)) u' := by
 obtain ⟨i, hi, hsi⟩ := sizeIs_sound hs
 have hE := hS.ents r
 rw [hx] at hE
 obtain ⟨hl, u0, cells, hu0, hlen, hdis⟩ := hE
 rw [hu] at hu0; cases hu0
 obtain ⟨i', zv, hi', hzv, hrz⟩ := ztree_sound hz g
 rw [hi] at hi'; cases hi'
 have hzc : zv.cells.size = i.size := by rw [hrz.size, hzs, hsi]
 have hcl : cells.length = k * size := by
  rcases hdis with ⟨h1, _⟩ | ⟨_, h1, _⟩
  ·exact h1.1
  ·exact h1
 have hG : ∀ b, g.own r = some b → ∀ (o : Nat), g.G b o = cells[o]? := by
  intro b hb
  rcases hdis with ⟨_, h1, h2⟩ | ⟨h1, _⟩
  ·exact h2 b (h1 ▸ hb)
  ·rw [h1] at hb; cases hb
 obtain ⟨vs, hvl, hvr, hvs, hvc⟩ : ∃ vs : List Value, vs.length = xs.length ∧ (∀ (i : Nat) (x : AV) (v : Value), xs[i]? = some x → vs[i]? = some v → Rep g x v) ∧ (∀ v ∈ vs, v.cells.size = size) ∧ flat vs = cells := by
  rcases hru with h0 | hru
  ·refine ⟨[], by simp [h0], fun i x v _ hv => by simp at hv, fun v hv => by simp at hv, ?_⟩
   have : cells.length = 0 := by rw [hcl, ← hk, h0]; simp
   rw [List.eq_nil_of_length_eq_zero this]; rfl
  ·cases hru with
   | slice _ _ vs A c size' hvl hc hm hvr hvs hcell hown' =>
    have hvs' := sizes_of hvl hvr hsx
    refine ⟨vs, hvl, hvr, hvs', ?_⟩
    have hfl : (flat vs).length = cells.length := by rw [flat_length vs size hvs', hvl, hk, hcl]
    rcases hcell with h0 | ⟨b, off, hA, hcell⟩
    ·have h1 : cells.length = 0 := by rw [hcl, ← hk, h0]; simp
     rw [List.eq_nil_of_length_eq_zero h1, List.eq_nil_of_length_eq_zero (hfl.trans h1)]
    ·apply List.ext_getElem?
     intro j
     by_cases hj : j < (flat vs).length
     ·have hcj := hcell j _ (List.getElem?_eq_getElem hj)
      rcases hdis with ⟨hown, ho, hG'⟩ | ⟨_, _, _, A', hu', hG'⟩
      ·have hob : (Value.slice A xs.length c).ownBlock = some b := by rw [hA]; rfl
       have hoff : off = 0 := by
        rcases hown.2 with ⟨hv0, _⟩ | ⟨g0, cap, cur, fz, hv0, _⟩
        ·rw [hA] at hv0; simp at hv0
        ·rw [hA] at hv0; simp at hv0; exact hv0.1.2
       rw [hoff, Nat.zero_add, hG' b hob] at hcj
       rw [hcj, List.getElem?_eq_getElem hj]
      ·rw [hA] at hu'
       simp at hu'
       obtain ⟨rfl, _, _⟩ := hu'
       have hj' : j < cells.length := by omega
       have := (hG' j _ (List.getElem?_eq_getElem hj')).2
       simp only at this
       rw [hcj] at this
       rw [List.getElem?_eq_getElem hj, List.getElem?_eq_getElem hj', this]
     ·rw [List.getElem?_eq_none (by omega), List.getElem?_eq_none (by omega)]
 have hful : (flat us).length = ys.length * size := by rw [flat_length us size hus, hul]
 have hall : ∀ v ∈ vs ++ us, v.cells.size = size := fun v hv => (List.mem_append.1 hv).elim (hvs v) (hus v)
 have finish : ∀ (u' : Value) (w' : World), ownsR w' W0.heap.size e size u' (k + ys.length) (cells ++ flat us) → slen u' = k + ys.length → w'.os = w.os → w'.tape = w.tape → w'.output = w.output → w.heap.size ≤ w'.heap.size →
   ((u' = u ∧ ys.length = 0 ∧ g.own r = u.ownBlock ∧ w'.heap = w.heap) ∨ (0 < ys.length ∧ u'.ownBlock = u.ownBlock ∧ g.own r = u.ownBlock ∧ ∀ j, u.ownBlock ≠ some j → j < w.heap.size → w'.heap[j]? = w.heap[j]?) ∨
   (0 < ys.length ∧ u'.ownBlock = some w.heap.size ∧ ∀ j, j < w.heap.size → w'.heap[j]? = w.heap[j]?)) →
   ∃ g', g.le g' ∧ Sim W0 g' (upd σ r (.row e size (k + ys.length))) n w' ∧ Rep g' (.slice (some r) (xs ++ ys)) u' := by
  intro u' w' k1 k2 k3 k4 k5 k6 k7
  obtain ⟨g', hle, hS', hrow, hG'⟩ := hS.grow hx hu hG k1 hlen k2 k3 k4 k5 k6 k7
  refine ⟨g', hle, hS', ?_⟩
  have hlen' : (xs ++ ys).length = k + ys.length := by rw [List.length_append, hk]
  have hrep : ∀ (A' : Option Addr) (c' : Nat), u' = .slice A' (k + ys.length) c' → k + ys.length ≤ c' → c' ≤ maxLen → (k + ys.length = 0 ∨ ∃ b, A' = some ⟨b, 0, none⟩ ∧ u'.ownBlock = some b) → Rep g' (.slice (some r) (xs ++ ys)) u' := by
   intro A' c' hu' hc' hcm' hA'
   have := Rep.slice (g := g') (some r) (xs ++ ys) (vs ++ us) A' c' size (by simp [hvl, hul]) (by rw [hlen']; exact hc') hcm'
    (fun j x v h1 h2 => by
     by_cases hj : j < xs.length
     ·rw [List.getElem?_append_left hj] at h1
      rw [List.getElem?_append_left (by omega)] at h2
      exact (hvr j x v h1 h2).mono hle
     ·rw [List.getElem?_append_right (by omega)] at h1
      rw [List.getElem?_append_right (by omega), hvl] at h2
      exact (hur _ x v h1 h2).mono hle) hall
    (hA'.imp (fun h => by rw [hlen']; exact h) (fun ⟨b, hb1, hb2⟩ => ⟨b, 0, hb1, fun j q hq => by rw [Nat.zero_add, hG' b hb2, ← hvc, ← flat_append]; exact hq⟩))
    (fun id' hid => by cases hid; exact ⟨u', hrow, by rw [hlen', k2]; exact Nat.le_refl _, fun _ => by rw [hlen', hu']⟩)
   rw [hlen'] at this
   rw [hu']
   exact this
  rcases k1.2 with ⟨hv0, hn0⟩ | ⟨g0, cap, cur, fz, hv0, _, _, _, hnc, hcm, _⟩
  ·exact hrep none 0 (by rw [hv0, hn0]) (by omega) (by unfold maxLen; omega) (.inl hn0)
  ·exact hrep _ cap hv0 hnc hcm (.inr ⟨g0, rfl, by rw [hv0]; rfl⟩)
 have hfu : ys.length = 0 → flat us = [] := fun h0 => List.eq_nil_of_length_eq_zero (by rw [hful, h0]; simp)
 have hys : ys.length = 0 → ys = [] := List.eq_nil_of_length_eq_zero
 rcases hdis with ⟨hownR, ho, _⟩ | ⟨ho, _, hkm, A0, rfl, hG'⟩
 ·have hownsi : ownsR w W0.heap.size e i.size u k cells := by rw [hsi]; exact hownR
  by_cases hy0 : ys.length = 0
  ·have hr := h0 hy0 (by
    rcases hownR.2 with ⟨rfl, rfl⟩ | ⟨g0, cap, cur, fz, rfl, _, _, _, hnc, _⟩
    ·exact ⟨none, 0, rfl, Nat.le_refl _⟩
    ·exact ⟨_, cap, rfl, hnc⟩)
   obtain ⟨g', k1, k2, k3⟩ := finish u w (by rw [hfu hy0, List.append_nil, hy0]; exact hownR) (by rw [hy0]; exact hlen) rfl rfl rfl (Nat.le_refl _) (.inl ⟨rfl, hy0, ho, rfl⟩)
   exact ⟨u, w, g', hr, k1, k2, k3⟩
  ·obtain ⟨u', w', hr, k1, k2, k3, k4, k5, k6, k7⟩ := hown i zv cells hi hzv hsi hzc hrz hownsi (by omega)
   obtain ⟨g', j1, j2, j3⟩ := finish u' w' (by rw [← hsi]; exact k1) k2 k3 k4 k5 k6 (.inr (k7.imp (fun ⟨q1, q2, q3⟩ => ⟨q1, q2, ho, q3⟩) fun h => h))
   exact ⟨u', w', g', hr, j1, j2, j3⟩
 ·by_cases hy0 : ys.length = 0
  ·have hr := h0 hy0 ⟨_, _, rfl, Nat.le_refl _⟩
   refine ⟨_, w, g, hr, g.le_refl, ?_, ?_⟩
   ·have e1 : upd σ r (.row e size (k + ys.length)) = σ := by
     funext id
     by_cases hid : id = r
     ·subst hid; rw [upd_same, hx, hy0]; rfl
     ·rw [upd_ne _ _ _ _ hid]
    rw [e1]; exact hS
   ·rw [hys hy0, List.append_nil]
    rcases hru with hx0 | hru
    ·have hx0' : xs = [] := List.eq_nil_of_length_eq_zero hx0
     have hk0 : k = 0 := by omega
     subst hx0' hk0
     exact .slice (some r) [] [] _ 0 size rfl (Nat.le_refl _) (by omega) (fun i x v h _ => by simp at h) (fun v hv => by simp at hv) (.inl rfl) (fun id hid => by cases hid; exact ⟨_, hu, by simp, fun _ => rfl⟩)
    ·exact hru
  ·obtain ⟨u', w', hr, k1, k2, k3, k4, k5, k6, k7⟩ := hfull i zv A0 cells hi hzv hsi hzc hrz rfl (by rw [hsi]; exact hcl) (fun j q hq => by
    obtain ⟨h1, h2⟩ := hG' j q hq
    obtain ⟨b0, o0, s0⟩ := A0
    simp only at h1 h2
    subst h1
    rw [Addr.add_lit]; exact hS.imm _ _ _ h2) (by omega)
   obtain ⟨g', j1, j2, j3⟩ := finish u' w' (by rw [← hsi]; exact k1) k2 k3 k4 k5 k6 (.inr (.inr k7))
   exact ⟨u', w', g', hr, j1, j2, j3⟩
theorem append_core {t ty e : TypeId} {size bytes k : Nat} {z : AV} (ht : sliceTy P t = some e) (hs : sizeIs P e size = true) (hb : bytesIs P e bytes = true) (hz : ztree P e = some z) (hzs : z.sz = size)
  {W0 : World} {g : Ghost} {σ : Nat → Ent} {n : Nat} {w : World} {r : Nat} {u y : Value} {xs ys : List AV} {Y : AV} (hS : Sim W0 g σ n w) (hx : σ r = .row e size k) (hu : g.row r = some u) (hk : xs.length = k)
  (hru : xs.length = 0 ∨ Rep g (.slice (some r) xs) u) (hY : Y.elems = some ys) (hry : Rep g Y y) (hsx : xs.all (fun x => x.sz == size) = true) (hsy : ys.all (fun x => x.sz == size && x.cell) = true) (hbytes : (xs.length + ys.length) * bytes ≤ 140737488355328)
  (hmx : xs.length + ys.length ≤ maxLen) :
  ∃ u' w' g', (Builtin.append_ #[t, t] ty #[u, y]).run P w = .ok u' w' ∧ g.le g' ∧ Sim W0 g' (upd σ r (.row e size (k + ys.length))) n w' ∧ Rep g' (.slice (some r) (xs ++ ys)) u' := by
 have hsy1 : ys.all (fun x => x.sz == size) = true := by
  rw [List.all_eq_true] at hsy ⊢
  intro x hx
  have := hsy x hx
  simp only [Bool.and_eq_true] at this
  exact this.1
 obtain ⟨A, m, c, us, hy, hm, hul, hur, hus, huc⟩ := elems_vals hY hry hsy1
 subst hy
 subst hm
 have hone : ∀ q ∈ flat us, q.oneCell' = true := by
  intro q hq
  obtain ⟨v, hv, hq⟩ := mem_flat.1 hq
  obtain ⟨j, hj⟩ := List.getElem?_of_mem hv
  have hlt : j < ys.length := by rw [← hul]; exact (List.getElem?_eq_some_iff.1 hj).1
  have hc := List.all_eq_true.1 hsy ys[j] (List.getElem_mem hlt)
  simp only [Bool.and_eq_true] at hc
  exact (hur j _ v (List.getElem?_eq_getElem hlt) hj).cell_ok hc.2 q hq
 have hful : (flat us).length = ys.length * size := by rw [flat_length us size hus, hul]
 obtain ⟨i0, hi0, _⟩ := sizeIs_sound hs
 have hbi : ∀ i, P.info? e = some i → i.bytes = bytes := fun i hi => by unfold bytesIs at hb; rw [hi] at hb; simpa using hb
 refine append_gen (P := P) (R := fun u' w' => (Builtin.append_ #[t, t] ty #[u, .slice A ys.length c]).run P w = .ok u' w') hs hz hzs hS hx hu hk hru hsx hul hur hus (fun h0 ⟨A', c', hu', hc'⟩ => ?_) (fun i zv cells hi hzv hsi hzc hrz hown hpos => ?_) (fun i zv A0 cells hi hzv hsi hzc hrz hu' hcl hcells hpos => ?_)
 ·subst hu'
  rw [h0]
  exact run_append_none' (P := P) (sliceTy_sound ht) hi0 hc'
 ·rcases huc with h' | ⟨b, off, rfl, huc⟩
  ·omega
  ·exact run_append_row (P := P) (ty := ty) (sliceTy_sound ht) hi hzv hzc hown (a := ⟨b, off, none⟩) (m := ys.length) (c := c) (news := flat us) (by rw [hsi]; exact hful)
    (fun j q hq => by rw [Addr.add_lit]; exact hS.imm _ _ _ (huc j q hq)) hone (by omega) (by rw [hbi i hi, ← hk]; exact hbytes) (by rw [← hk]; exact hmx) hS.below.size
 ·subst hu'
  rcases huc with h' | ⟨b, off, rfl, huc⟩
  ·omega
  ·exact run_append_full (P := P) (ty := ty) (base := W0.heap.size) (sliceTy_sound ht) hi hzv hzc (A := A0) (n := k) (xs := cells) hcl hcells
    (a := ⟨b, off, none⟩) (m := ys.length) (c := c) (news := flat us) (by rw [hsi]; exact hful) (fun j q hq => by rw [Addr.add_lit]; exact hS.imm _ _ _ (huc j q hq)) (by omega) (by rw [hbi i hi, ← hk]; exact hbytes) (by rw [← hk]; exact hmx) hS.below.size
end

section
variable {P : Program} {o : Oper} {s : Slots} {id : Nat}
theorem holds_append_own {t e : TypeId} {size bytes r : Nat} {z Y : AV} {x y : Operand} {xs ys : List AV} (ho : o.op = .call { callee := .builtin .append, args := #[x, y], argTypes := #[t, t] }) (ht : sliceTy P t = some e) (hs : sizeIs P e size = true) (hb : bytesIs P e bytes = true)
  (hz : ztree P e = some z) (hzs : z.sz = size) (hx : aeval s x = .slice (some r) xs) (hy : aeval s y = Y) (hY : Y.elems = some ys)
  (hsx : xs.all (fun x => x.sz == size) = true) (hsy : ys.all (fun x => x.sz == size && x.cell) = true) (hbytes : (xs.length + ys.length) * bytes ≤ 140737488355328) (hmx : xs.length + ys.length ≤ maxLen) :
  OpHolds P o s id [(r, .row e size xs.length)] (.slice (some r) (xs ++ ys)) [(r, .row e size (xs.length + ys.length))] := by
 refine ⟨fun p hp => by simp at hp; subst hp; simp, fun q hq => .inr ⟨(r, .row e size xs.length), by simp, by simp at hq; subst hq; rfl⟩, fun W0 g σ n w a hS hr _ _ hp => ?_⟩
 have h1 := hr x (by simp [ho, Op.operands, Call.operands])
 have h2 := hr y (by simp [ho, Op.operands, Call.operands])
 rw [hx] at h1
 rw [hy] at h2
 have hp' : σ r = .row e size xs.length := hp (r, .row e size xs.length) (by simp)
 obtain ⟨cs, he⟩ := execOp_builtin (P := P) (a := a) ho w
 have hE := hS.ents r
 rw [hp'] at hE
 obtain ⟨hl, u, cells, hu, hlen, _⟩ := hE
 have hxu : a.eval x = u := by
  generalize hv : a.eval x = v at h1
  cases h1 with
  | slice _ _ vs A c size' hvl hc hm hvr hvs hcell hown' =>
   obtain ⟨u', hu', _, h3⟩ := hown' r rfl
   rw [hu] at hu'
   cases hu'
   exact h3 hlen.symm
 obtain ⟨u', w', g', hrun, hle, hS', hrep⟩ := append_core (P := P) (ty := o.type) ht hs hb hz hzs hS hp' hu rfl (.inr (by rw [← hxu]; exact h1)) hY h2 hsx hsy hbytes hmx
 unfold runsTo
 have hexec : (execOp a.eval o).run P w = .ok (.value u') w' := by
  rw [he]
  simp [builtin, hxu, hrun]
 rw [hexec]
 exact ⟨g', hle, hS', hrep⟩
theorem holds_append_nils {t e : TypeId} {size bytes : Nat} {z Y : AV} {x y : Operand} {ys : List AV} (ho : o.op = .call { callee := .builtin .append, args := #[x, y], argTypes := #[t, t] }) (ht : sliceTy P t = some e) (hs : sizeIs P e size = true) (hb : bytesIs P e bytes = true)
  (hz : ztree P e = some z) (hzs : z.sz = size) (hx : aeval s x = .nils) (hy : aeval s y = Y) (hY : Y.elems = some ys)
  (hsy : ys.all (fun x => x.sz == size && x.cell) = true) (hbytes : ys.length * bytes ≤ 140737488355328) (hmx : ys.length ≤ maxLen) :
  OpHolds P o s id [] (.slice (some id) ys) [(id, .row e size ys.length)] := by
 refine ⟨fun p hp => (by cases hp), fun q hq => .inl (by simp at hq; subst hq; rfl), fun W0 g σ n w a hS hr hf hn _ => ?_⟩
 have h1 := hr x (by simp [ho, Op.operands, Call.operands])
 have h2 := hr y (by simp [ho, Op.operands, Call.operands])
 rw [hx] at h1
 rw [hy] at h2
 have hxu : a.eval x = .slice none 0 0 := by
  generalize hv : a.eval x = v at h1
  cases h1; rfl
 obtain ⟨cs, he⟩ := execOp_builtin (P := P) (a := a) ho w
 obtain ⟨g1, hle1, hS1, hrow1, _⟩ := hS.addRow (k := id) (e := e) (size := size) (m := 0) (u := .slice none 0 0) (cells := []) hf hn (ownsR_nil w _ e size) rfl (fun b hb => by simp [Value.ownBlock] at hb) (fun b hb => by simp [Value.ownBlock] at hb)
 obtain ⟨u', w', g', hrun, hle, hS', hrep⟩ := append_core (P := P) (ty := o.type) (xs := []) ht hs hb hz hzs hS1 (upd_same _ _ _) hrow1 rfl (.inl rfl) hY (h2.mono hle1) rfl hsy (by simpa using hbytes) (by simpa using hmx)
 unfold runsTo
 have hexec : (execOp a.eval o).run P w = .ok (.value u') w' := by
  rw [he]
  simp [builtin, hxu, hrun]
 rw [hexec]
 refine ⟨g', hle1.trans hle, ?_, by simpa using hrep⟩
 rw [upd_upd] at hS'
 simpa [wr] using hS'
theorem holds_append_clip {t e : TypeId} {size bytes : Nat} {z Y : AV} {x y : Operand} {xs ys : List AV} (ho : o.op = .call { callee := .builtin .append, args := #[x, y], argTypes := #[t, t] }) (ht : sliceTy P t = some e) (hs : sizeIs P e size = true) (hb : bytesIs P e bytes = true)
  (hz : ztree P e = some z) (hzs : z.sz = size) (hx : aeval s x = .clip xs) (hy : aeval s y = Y) (hY : Y.elems = some ys)
  (hsx : xs.all (fun x => x.sz == size) = true) (hsy : ys.all (fun x => x.sz == size && x.cell) = true) (hbytes : (xs.length + ys.length) * bytes ≤ 140737488355328) (hmx : xs.length + ys.length ≤ maxLen) :
  OpHolds P o s id [] (.slice (some id) (xs ++ ys)) [(id, .row e size (xs.length + ys.length))] := by
 refine ⟨fun p hp => (by cases hp), fun q hq => .inl (by simp at hq; subst hq; rfl), fun W0 g σ n w a hS hr hf hn _ => ?_⟩
 have h1 := hr x (by simp [ho, Op.operands, Call.operands])
 have h2 := hr y (by simp [ho, Op.operands, Call.operands])
 rw [hx] at h1
 rw [hy] at h2
 obtain ⟨cs, he⟩ := execOp_builtin (P := P) (a := a) ho w
 generalize hv : a.eval x = v at h1
 cases h1 with
 | clip _ A m hcl =>
  obtain ⟨g1, hle1, hS1, hrow1, hrep1⟩ := hS.ofClip (k := id) (e := e) (size := size) hf hn hcl hsx
  obtain ⟨u', w', g', hrun, hle, hS', hrep⟩ := append_core (P := P) (ty := o.type) (xs := xs) ht hs hb hz hzs hS1 (upd_same _ _ _) hrow1 rfl (.inr hrep1) hY (h2.mono hle1) hsx hsy hbytes hmx
  unfold runsTo
  have hexec : (execOp a.eval o).run P w = .ok (.value u') w' := by
   rw [he]
   simp [builtin, hv, hrun]
  rw [hexec]
  refine ⟨g', hle1.trans hle, ?_, hrep⟩
  rw [upd_upd] at hS'
  simpa [wr] using hS'
theorem holds_makeSlice {t e : TypeId} {size bytes : Nat} {z : AV} {x y : Operand} {k k' : IntKind} {n c : Int} (ho : o.op = .makeSlice t x y) (ht : sliceTy P t = some e) (hs : sizeIs P e size = true) (hb : bytesIs P e bytes = true) (hz : ztree P e = some z) (hzs : z.sz = size) (hpos : 0 < size)
  (hx : aeval s x = .lit (.int k n)) (hy : aeval s y = .lit (.int k' c)) (h0 : 0 ≤ n) (h1 : n ≤ c) (h2 : c ≤ 140737488355328) (h3 : bytes * c ≤ 140737488355328) :
  OpHolds P o s id [] (.slice (some id) (List.replicate n.toNat z)) [(id, .row e size n.toNat)] := by
 refine ⟨fun p hp => (by cases hp), fun q hq => .inl (by simp at hq; subst hq; rfl), fun W0 g σ N w a hS hr hf hn _ => ?_⟩
 have e1 := hr x (by simp [ho, Op.operands])
 have e2 := hr y (by simp [ho, Op.operands])
 rw [hx] at e1
 rw [hy] at e2
 have e1 := rep_lit_inv e1
 have e2 := rep_lit_inv e2
 obtain ⟨i, hi, hsi⟩ := sizeIs_sound hs
 have hbi : i.bytes = bytes := by unfold bytesIs at hb; rw [hi] at hb; simpa using hb
 obtain ⟨i', zv, hi', hzv, hrz⟩ := ztree_sound hz g
 rw [hi] at hi'; cases hi'
 have hzc : zv.cells.size = size := by rw [hrz.size, hzs]
 obtain ⟨n', rfl⟩ := Int.eq_ofNat_of_zero_le h0
 obtain ⟨c', rfl⟩ := Int.eq_ofNat_of_zero_le (Int.le_trans h0 h1)
 have hc0 : (0 : Int) ≤ (c' : Int) := by omega
 have hbc : (i.bytes : Int) * (c' : Int) ≤ 281474976710656 := by rw [hbi]; omega
 have hrun := run_make (P := P) w t e i zv (sliceTy_sound ht) hi hzv k k' (n' : Int) (c' : Int) h0 h1 hbc (by omega)
 simp only [Int.toNat_natCast] at hrun ⊢
 have hcur : (madeCells zv.cells (c' * i.size)).toList = flat (List.replicate c' zv) := by
  rw [hsi]; exact flat_replicate c' zv size hzc hpos
 have hfl : (flat (List.replicate n' zv)).length = n' * size := by rw [flat_length _ size (fun v hv => by rw [List.eq_of_mem_replicate hv]; exact hzc), List.length_replicate]
 have hcm : c' ≤ maxLen := by unfold maxLen; omega
 obtain ⟨g', hle, hS', hrow, hG⟩ := hS.newRow (e := e) (size := size) (m := n') (cells := flat (List.replicate n' zv)) hf hn (madeCells zv.cells (c' * i.size)) c' hfl (by omega) hcm
  (by rw [← Array.length_toList, hcur, flat_length _ size (fun v hv => by rw [List.eq_of_mem_replicate hv]; exact hzc), List.length_replicate])
  (by rw [hcur, ← flat_take _ size (fun v hv => by rw [List.eq_of_mem_replicate hv]; exact hzc), List.take_replicate, Nat.min_eq_left (by omega)])
 unfold runsTo
 have hexec : (execOp a.eval o).run P w = .ok (.value (.slice (some ⟨w.heap.size, 0, none⟩) n' c')) (w.alloc (.cells (madeCells zv.cells (c' * i.size)) e)) := by
  simp only [execOp, ho, e1, e2, Sem.run_bind, hrun, Result.andThen_ok, Sem.run_pure]
 rw [hexec]
 refine ⟨g', hle, hS', ?_⟩
 have := Rep.slice (g := g') (some id) (List.replicate n' z) (List.replicate n' zv) (some ⟨w.heap.size, 0, none⟩) c' size (by simp) (by simp; omega) hcm (fun i x v h1 h2 => (rep_replicate hrz n' i x v h1 h2).mono hle)
  (fun v hv => by rw [List.eq_of_mem_replicate hv]; exact hzc) (.inr ⟨_, _, rfl, fun j u hu => by rw [Nat.zero_add, hG]; exact hu⟩) (fun id' hid => by cases hid; exact ⟨_, hrow, by simp [slen], fun _ => by simp⟩)
 simpa using this
def byteAV (b : UInt8) : AV := .lit (.int .u8 (b.toNat : Int))
def strV (l : List UInt8) : Value := .string ⟨l.toArray⟩
theorem byteAV_sz (b : UInt8) : (byteAV b).sz = 1 := rfl
theorem byteAV_cell (b : UInt8) : (byteAV b).cell = true := rfl
theorem bytes_foldl (bs : List UInt8) (acc : ByteArray) : (bs.map fun b => (b.toNat : Int)).foldl (fun r n => r.push (UInt8.ofNat n.toNat)) acc = ⟨acc.data ++ bs.toArray⟩ := by
 induction bs generalizing acc with
 | nil => simp
 | cons b r ih =>
  simp only [List.map_cons, List.foldl_cons, Int.toNat_natCast, UInt8.ofNat_toNat]
  rw [ih]
  simp [ByteArray.push]
theorem flat_lits (vs : List Value) (h : ∀ v ∈ vs, v.oneCell' = true) : flat vs = vs := by
 induction vs with
 | nil => rfl
 | cons v r ih =>
  rw [flat_cons, ih fun u hu => h u (List.mem_cons_of_mem _ hu), oneCell_cells (h v (List.mem_cons_self ..))]
  rfl
theorem rep_bytes {g : Ghost} {bs : List UInt8} {vs : List Value} (hl : vs.length = (bs.map byteAV).length) (h : ∀ (i : Nat) (x : AV) (v : Value), (bs.map byteAV)[i]? = some x → vs[i]? = some v → Rep g x v) : vs = bs.map fun b => .int .u8 (b.toNat : Int) := by
 apply List.ext_getElem?
 intro i
 by_cases hi : i < bs.length
 ·have hv : i < vs.length := by rw [hl]; simpa using hi
  have := h i (byteAV bs[i]) vs[i] (by simp [hi]) (List.getElem?_eq_getElem hv)
  have e := rep_lit_inv this
  rw [List.getElem?_eq_getElem hv, e]
  simp [hi]
 ·rw [List.getElem?_eq_none (by rw [hl]; simpa using hi), List.getElem?_eq_none (by simpa using hi)]
def byteTy (P : Program) (e : TypeId) : Bool :=
 match P.underlying e with
 | some (.int .u8) => true
 | _ => false
theorem holds_convert_bytes_le {src dst e : TypeId} {x : Operand} {own : Option Nat} {bs : List UInt8} (ho : o.op = .convert src dst x) (hs : sliceTy P src = some e) (he : byteTy P e = true) (hd : strTy P dst = true) (hx : AV.le (aeval s x) (.slice own (bs.map byteAV))) :
  OpHolds P o s id [] (.lit (strV bs)) [] :=
 holds_read (fun p hp => (by cases hp)) fun W0 g σ n w a hS hr _ => by
  have h1 := hx _ _ (hr x (by simp [ho, Op.operands]))
  generalize hv : a.eval x = v at h1
  have he' : P.underlying e = some (.int .u8) := by
   unfold byteTy at he
   split at he
   ·assumption
   ·cases he
  cases h1 with
  | slice _ _ vs A c size hvl hc hm hvr hvs hcell hown =>
   have hvb := rep_bytes hvl hvr
   have hfl : flat vs = vs := flat_lits vs (by rw [hvb]; intro v hv; obtain ⟨b, _, rfl⟩ := List.mem_map.1 hv; rfl)
   refine ⟨_, ?_, .lit _ rfl⟩
   have hconv := run_convert_bytes_string (P := P) w src dst e A (bs.map byteAV).length c (sliceTy_sound hs) he' (strTy_sound hd)
   simp only [execOp, ho, hv, Sem.run_bind, hconv]
   rcases hcell with h0 | ⟨b, off, rfl, hG⟩
   ·have hb0 : bs = [] := by simpa using h0
    subst hb0
    cases A <;> simp [Conv.bytesToString, loadCells, loadCellsFrom, strV] <;> rfl
   ·have hload : (loadCells ⟨b, off, none⟩ (bs.map byteAV).length).run P w = .ok ((bs.map fun b => (b.toNat : Int)).map (Value.int .u8)).toArray w := by
     have := run_loadCells_list (P := P) w ⟨b, off, none⟩ (flat vs) (fun j u hu => by rw [Addr.add_lit]; exact hS.imm _ _ _ (hG j u hu))
     rw [hfl] at this
     rw [← hvl, this, hvb]
     simp
    rw [run_bytesToString w ⟨b, off, none⟩ _ c _ hload, bytes_foldl]
    simp [strV]
theorem holds_convert_bytes {src dst e : TypeId} {x : Operand} {own : Option Nat} {bs : List UInt8} (ho : o.op = .convert src dst x) (hs : sliceTy P src = some e) (he : byteTy P e = true) (hd : strTy P dst = true) (hx : aeval s x = .slice own (bs.map byteAV)) :
  OpHolds P o s id [] (.lit (strV bs)) [] := holds_convert_bytes_le ho hs he hd (by rw [hx]; exact AV.le_refl _)
end

def nilKind (P : Program) (t : TypeId) : Nat :=
 match P.underlying t with
 | some (.slice _) => 1
 | some (.pointer _) => 2
 | some (.func _ _ _) => 3
 | _ => 0
def isNilV : Value → Option (Nat × Bool)
 | .slice A _ _ => some (1, A.isNone)
 | .pointer A => some (2, A.isNone)
 | .nilFunc => some (3, true)
 | .func _ _ _ => some (3, false)
 | _ => none
def nilAV : AV → Option (Nat × Bool)
 | .nils => some (1, true)
 | .slice _ xs => if xs.isEmpty then none else some (1, false)
 | .ptr _ _ _ => some (2, false)
 | .view _ => some (2, false)
 | .mp _ _ _ _ => some (2, false)
 | .bs _ _ _ _ _ => some (1, false)
 | .fn _ _ => some (3, false)
 | .lit v => isNilV v
 | _ => none
theorem nilAV_sound {g : Ghost} {x : AV} {v : Value} {kb : Nat × Bool} (h : nilAV x = some kb) (hr : Rep g x v) : isNilV v = some kb := by
 cases hr with
 | any _ _ => cases h
 | lit v _ => exact h
 | nils => exact h
 | slice own xs vs A c size hvl hc hm _ hs hcell hown =>
  cases xs with
  | nil => simp [nilAV] at h
  | cons x xs =>
   simp only [nilAV, List.isEmpty_cons] at h
   rcases hcell with h0 | ⟨b, o, hA, _⟩
   ·simp at h0
   ·subst hA; simpa [isNilV] using h
 | agg => cases h
 | ptr => exact h
 | view => exact h
 | fn => exact h
 | tup => cases h
 | clip => cases h
 | ms => cases h
 | mp => exact h
 | bs => exact h
 | iface => cases h
theorem run_equalIn_nil {P : Program} {t : TypeId} {a b : Value} {k : Nat} {p : Bool} (ha : isNilV a = some (k, p)) (hb : isNilV b = some (k, true)) (ht : nilKind P t = k) (d : Nat) (w : World) : (Op.equalIn (d + 1) t a b).run P w = .ok p w := by
 unfold nilKind at ht
 cases a <;> simp [isNilV] at ha <;> obtain ⟨rfl, rfl⟩ := ha <;> cases b <;> simp [isNilV] at hb
 all_goals
  split at ht <;> simp at ht
  rename_i hu
  try subst hb
 all_goals first
  | (rename_i A _ _ _ _ _ _ _; cases A <;> simp [Op.equalIn, run_underlying hu]; done)
  | (rename_i A _ _ _ _ _ _; cases A <;> simp [Op.equalIn, run_underlying hu]; done)
  | (rename_i A _ _ _ _ _; cases A <;> simp [Op.equalIn, run_underlying hu]; done)
  | (rename_i A _ _ _ _; cases A <;> simp [Op.equalIn, run_underlying hu]; done)
  | (rename_i A _ _ _; cases A <;> simp [Op.equalIn, run_underlying hu]; done)
  | (rename_i A _ _; cases A <;> simp [Op.equalIn, run_underlying hu]; done)
  | (rename_i A _; cases A <;> simp [Op.equalIn, run_underlying hu]; done)
  | (simp [Op.equalIn, run_underlying hu]; done)
theorem run_equal_nil {P : Program} {t : TypeId} {a b : Value} {k : Nat} {p : Bool} (ha : isNilV a = some (k, p)) (hb : isNilV b = some (k, true)) (ht : nilKind P t = k) (w : World) : (Op.equal t a b).run P w = .ok p w :=
 run_equalIn_nil ha hb ht 9999 w
theorem binOp_eql_nil {t : TypeId} {a b : Value} {kp : Nat × Bool} (ha : isNilV a = some kp) : binOp .eql t a b = (do pure (.bool (← Op.equal t a b))) := by
 cases a <;> simp [isNilV] at ha <;> rfl
theorem binOp_neq_nil {t : TypeId} {a b : Value} {kp : Nat × Bool} (ha : isNilV a = some kp) : binOp .neq t a b = (do pure (.bool !(← Op.equal t a b))) := by
 cases a <;> simp [isNilV] at ha <;> rfl
def evNilEq (P : Program) (op : BinOp) (t : TypeId) (u v : AV) : Option Bool :=
 match nilAV u, nilAV v with
 | some (k, p), some (k', true) => if k = k' ∧ nilKind P t = k then
   match op with
   | .eql => some p
   | .neq => some !p
   | _ => none
  else none
 | _, _ => none
theorem holds_nilEq {P : Program} {o : Oper} {s : Slots} {id : Nat} {op : BinOp} {t yt : TypeId} {x y : Operand} {u v : AV} {r : Bool} (ho : o.op = .binOp op t x y yt) (hx : aeval s x = u) (hy : aeval s y = v) (h : evNilEq P op t u v = some r) :
  OpHolds P o s id [] (.lit (.bool r)) [] :=
 holds_pure fun g w a hr => by
  have h1 := hr x (by simp [ho, Op.operands])
  have h2 := hr y (by simp [ho, Op.operands])
  rw [hx] at h1
  rw [hy] at h2
  refine ⟨.bool r, ?_, .lit _ rfl⟩
  unfold evNilEq at h
  split at h
  ·rename_i k p k' e1 e2
   split at h
   ·rename_i hc
    obtain ⟨rfl, hk⟩ := hc
    have a1 := nilAV_sound e1 h1
    have a2 := nilAV_sound e2 h2
    have hrun := run_equal_nil (P := P) a1 a2 hk w
    simp only [execOp, ho]
    generalize a.eval x = X at *
    generalize a.eval y = Y at *
    have hg : ∀ op, eqGuard op t x y X Y = pure () := by
     intro op
     unfold eqGuard
     cases X <;> simp [isNilV] at a1 <;> cases Y <;> simp [isNilV] at a2 <;> cases op <;> rfl
    rw [hg]
    split at h
    ·cases h
     rw [binOp_eql_nil a1]
     simp only [Sem.run_bind, Sem.run_pure, Result.andThen_ok, hrun]
    ·cases h
     rw [binOp_neq_nil a1]
     simp only [Sem.run_bind, Sem.run_pure, Result.andThen_ok, hrun]
    ·cases h
   ·cases h
  ·cases h

section
variable {P : Program} {o : Oper} {s : Slots} {id : Nat}
theorem runsTo.mono {a : Act} {w : World} {R R' : Value → World → Prop} (h : runsTo P o a w R) (hR : ∀ u w', R u w' → R' u w') : runsTo P o a w R' := by
 unfold runsTo at *
 generalize (execOp a.eval o).run P w = r at *
 cases r with
 | ok x w' =>
  cases x <;> simp only [runsUpon] at *
  ·exact hR _ _ h
  ·exact hR _ _ h
  ·exact h.mono fun e w'' ⟨u, he, hu⟩ => ⟨u, he, hR _ _ hu⟩
  ·exact h.mono fun e w'' ⟨u, he, hu⟩ => ⟨u, he, hR _ _ hu⟩
 | halt x w' => simp [runsUpon] at h
theorem Rep.msFrozen {g g' : Ghost} {id ver size : Nat} {xs : List AV} {vs : List Value} {u v : Value} (hr : Rep g (.ms id ver size 0 xs.length) v) (hle : g.le g') (hm : g.mr id = some (ver, u)) (hlen : slen u = xs.length) (hrow : g'.row id = some u) (hvl : vs.length = xs.length)
  (hvr : ∀ (i : Nat) (x : AV) (v : Value), xs[i]? = some x → vs[i]? = some v → Rep g x v) (hvs : ∀ v ∈ vs, v.cells.size = size) (hG : ∀ b, u.ownBlock = some b → ∀ (o : Nat), g'.G b o = (flat vs)[o]?) :
  Rep g' (.slice (some id) xs) v := by
 cases hr with
 | ms _ _ _ _ _ ver' u' A c hm' hv hl hc h =>
  rw [hm] at hm'; cases hm'
  obtain ⟨A0, n0, c0, rfl, h1, h2, h3⟩ := h rfl
  obtain ⟨rfl, rfl⟩ := h2 rfl
  simp only [slen] at hlen
  subst hlen
  refine .slice (some id) xs vs A c size hvl hl hc (fun i x v h1 h2 => (hvr i x v h1 h2).mono hle) hvs ?_ (fun id' hid => by cases hid; exact ⟨_, hrow, by simp [slen], fun _ => rfl⟩)
  by_cases h0 : xs.length = 0
  ·exact .inl h0
  ·obtain ⟨b, hb, _⟩ := h3 (by omega)
   exact .inr ⟨b, 0, hb, fun j q hq => by rw [Nat.zero_add, hG b (by rw [hb]; rfl)]; exact hq⟩
theorem OpHolds.freezeNew {size : Nat} {e : TypeId} {ys : List AV} {n : Nat} (h : OpHolds P o s id [] (.ms id 0 size 0 n) [(id, .mrow 0 e size ys)]) (hn : ys.length = n) : OpHolds P o s id [] (.slice (some id) ys) [(id, .row e size n)] := by
 subst hn
 obtain ⟨h1, h2, h3⟩ := h
 refine ⟨h1, fun q hq => .inl (by simp at hq; subst hq; rfl), fun W0 g σ n w a hS hr hf hn hp => (h3 W0 g σ n w a hS hr hf hn hp).mono ?_⟩
 rintro u w' ⟨g', hle, hS', hrep⟩
 obtain ⟨g2, hle2, hS2, u2, vs, k1, k2, k3, k4, k5, k6, k7, k8⟩ := hS'.freezeM (id := id) (ver := 0) (e := e) (size := size) (xs := ys) (by simp [wr, upd_same])
 refine ⟨g2, hle.trans hle2, ?_, hrep.msFrozen hle2 k1 k3 k2 k4 k5 k6 k8⟩
 have : upd (wr σ [(id, Ent.mrow 0 e size ys)]) id (.row e size ys.length) = wr σ [(id, .row e size ys.length)] := by simp [wr, upd_upd]
 rw [← this]; exact hS2
theorem Sim.newM {W0 : World} {g : Ghost} {σ : Nat → Ent} {n : Nat} {w : World} (h : Sim W0 g σ n w) {k : Nat} {e : TypeId} {size : Nat} {xs : List AV} {vs : List Value} (hk : σ k = .none) (hn : k < n) (cur : Array Value) (cap : Nat) (hvl : vs.length = xs.length)
  (hvr : ∀ (i : Nat) (x : AV) (v : Value), xs[i]? = some x → vs[i]? = some v → Rep g x v) (hvs : ∀ v ∈ vs, v.cells.size = size) (hmc : xs.length ≤ cap) (hcm : cap ≤ maxLen) (hcur : cur.size = cap * size) (htake : cur.toList.take (xs.length * size) = flat vs) {fz : Nat × Nat} (hz : noFz fz cur.size) :
  ∃ g', g.le g' ∧ Sim W0 g' (upd σ k (.mrow 0 e size xs)) n (w.alloc (.cells cur e fz)) ∧ Rep g' (.ms k 0 size 0 xs.length) (.slice (some ⟨w.heap.size, 0, none⟩) xs.length cap) := by
 have hfl : (flat vs).length = xs.length * size := by rw [flat_length vs size hvs, hvl]
 have hown : ownsR (w.alloc (.cells cur e fz)) W0.heap.size e size (.slice (some ⟨w.heap.size, 0, none⟩) xs.length cap) xs.length (flat vs) :=
  ⟨hfl, .inr ⟨w.heap.size, cap, cur, fz, rfl, h.below.size, heap_alloc_new w _, hz, hmc, hcm, hcur, htake⟩⟩
 obtain ⟨h1, h2⟩ := (h.alloc (.cells cur e fz)).addM hk hn hown rfl hvl hvr hvs (fun b hb o => by simp [Value.ownBlock] at hb; subst hb; exact h.G_new o) (fun b hb i => by simp [Value.ownBlock] at hb; subst hb; exact h.blk_new i)
 exact ⟨_, h1, h2, .ms k 0 size 0 xs.length 0 _ _ cap (by simp [upd_same]; rfl) (Nat.le_refl _) hmc hcm fun _ => ⟨_, _, _, rfl, by omega, fun _ => ⟨rfl, rfl⟩, fun _ => ⟨_, rfl, by simp⟩⟩⟩
theorem holds_buildSliceM {t e : TypeId} {len size : Nat} {parts : Array (Nat × Operand)} {ys : List AV} {z : AV} (ho : o.op = .buildSlice t len parts) (ht : sliceTy P t = some e) (hs : sizeIs P e size = true) (hz : ztree P e = some z) (hpos : 0 < size) (hzs : z.sz = size)
  (hlen : len * size ≤ 16777216) (hf : fillA (fun i => some (i * size, size)) (List.replicate len z) (parts.toList.map fun p => (p.1, aeval s p.2)) = some ys) (hys : ys.length = len) (hsz : ys.all (fun x => x.sz == size) = true) :
  OpHolds P o s id [] (.ms id 0 size 0 len) [(id, .mrow 0 e size ys)] := by
 refine ⟨fun p hp => (by cases hp), fun q hq => .inl (by simp at hq; subst hq; rfl), fun W0 g σ n w a hS hr hf0 hn _ => ?_⟩
 obtain ⟨i, zv, hi, hzv, hrep⟩ := ztree_sound hz g
 obtain ⟨ie, hie, hsi⟩ := sizeIs_sound hs
 rw [hi] at hie; cases hie
 have hzc : zv.cells.size = size := by rw [hrep.size, hzs]
 have hcells : ((Array.range (len * size)).map ((if len * size = 0 then #[] else zv.cells)[· % (if len * size = 0 then #[] else zv.cells).size]!)).toList = flat (List.replicate len zv) := by
  by_cases h0 : len * size = 0
  ·have : len = 0 := by
    rcases Nat.mul_eq_zero.1 h0 with h | h
    ·exact h
    ·omega
   subst this
   simp [flat]
  ·rw [if_neg h0]; exact flat_replicate len zv size hzc hpos
 obtain ⟨us, cells', k1, k2, k3, k4⟩ := fillA_sound _ ((parts.map fun (p : Nat × Operand) => (p.1, a.eval p.2)).toList) (List.replicate len z) ys (List.replicate len zv) _ hf (by simp) (parts_rep (by simpa [ho, Op.operands] using hr)) (by simp) (rep_replicate hrep len) hcells
 have hus : ∀ v ∈ us, v.cells.size = size := sizes_of k1 k2 hsz
 have hfl : (flat us).length = len * size := by rw [flat_length us size hus, k1, hys]
 have hm : len ≤ maxLen := by
  have : len ≤ len * size := Nat.le_mul_of_pos_right _ hpos
  unfold maxLen; omega
 obtain ⟨g', hle, hS', hrp⟩ := hS.newM (e := e) (size := size) (xs := ys) (vs := us) hf0 hn cells' len k1 k2 hus (by omega) hm (by rw [← Array.length_toList, k3, hfl]) (by rw [k3, List.take_of_length_le (by rw [hfl, hys]; exact Nat.le_refl _)]) (noFz_zero _)
 unfold runsTo
 have hexec : (execOp a.eval o).run P w = .ok (.value (.slice (some ⟨w.heap.size, 0, none⟩) len len)) (w.alloc (.cells cells' e)) := by
  have hbig : ¬ len * size > 2 ^ 24 := by omega
  simp only [execOp, ho, Instr.buildSlice, Sem.run_bind, run_underlying (sliceTy_sound ht), Result.andThen_ok, sizeOf, typeInfo, run_program, hi, Sem.run_pure, hsi, if_neg hbig]
  by_cases h0 : len * size = 0
  ·simp only [if_pos h0] at k4 ⊢
   simp only [Sem.run_bind, Sem.run_pure, Result.andThen_ok]
   rw [k4]
   rfl
  ·simp only [if_neg h0] at k4 ⊢
   simp only [Sem.run_bind, Sem.run_pure, Result.andThen_ok, zeroValue, typeInfo, run_program, hi, hzv]
   rw [k4]
   rfl
 rw [hexec]
 rw [hys] at hrp
 exact ⟨g', hle, hS', hrp⟩
theorem holds_makeSliceM {t e : TypeId} {size bytes : Nat} {z : AV} {x y : Operand} {k k' : IntKind} {n c : Int} (ho : o.op = .makeSlice t x y) (ht : sliceTy P t = some e) (hs : sizeIs P e size = true) (hb : bytesIs P e bytes = true) (hz : ztree P e = some z) (hzs : z.sz = size) (hpos : 0 < size)
  (hx : aeval s x = .lit (.int k n)) (hy : aeval s y = .lit (.int k' c)) (h0 : 0 ≤ n) (h1 : n ≤ c) (h2 : c ≤ 140737488355328) (h3 : bytes * c ≤ 140737488355328) :
  OpHolds P o s id [] (.ms id 0 size 0 n.toNat) [(id, .mrow 0 e size (List.replicate n.toNat z))] := by
 refine ⟨fun p hp => (by cases hp), fun q hq => .inl (by simp at hq; subst hq; rfl), fun W0 g σ N w a hS hr hf hn _ => ?_⟩
 have e1 := hr x (by simp [ho, Op.operands])
 have e2 := hr y (by simp [ho, Op.operands])
 rw [hx] at e1
 rw [hy] at e2
 have e1 := rep_lit_inv e1
 have e2 := rep_lit_inv e2
 obtain ⟨i, hi, hsi⟩ := sizeIs_sound hs
 have hbi : i.bytes = bytes := by unfold bytesIs at hb; rw [hi] at hb; simpa using hb
 obtain ⟨i', zv, hi', hzv, hrz⟩ := ztree_sound hz g
 rw [hi] at hi'; cases hi'
 have hzc : zv.cells.size = size := by rw [hrz.size, hzs]
 obtain ⟨n', rfl⟩ := Int.eq_ofNat_of_zero_le h0
 obtain ⟨c', rfl⟩ := Int.eq_ofNat_of_zero_le (Int.le_trans h0 h1)
 have hbc : (i.bytes : Int) * (c' : Int) ≤ 281474976710656 := by rw [hbi]; omega
 have hrun := run_make (P := P) w t e i zv (sliceTy_sound ht) hi hzv k k' (n' : Int) (c' : Int) h0 h1 hbc (by omega)
 simp only [Int.toNat_natCast] at hrun ⊢
 have hcur : (madeCells zv.cells (c' * i.size)).toList = flat (List.replicate c' zv) := by
  rw [hsi]; exact flat_replicate c' zv size hzc hpos
 have hcm : c' ≤ maxLen := by unfold maxLen; omega
 have hall : ∀ m, ∀ v ∈ List.replicate m zv, v.cells.size = size := fun m v hv => by rw [List.eq_of_mem_replicate hv]; exact hzc
 obtain ⟨g', hle, hS', hrp⟩ := hS.newM (e := e) (size := size) (xs := List.replicate n' z) (vs := List.replicate n' zv) hf hn (madeCells zv.cells (c' * i.size)) c' (by simp) (rep_replicate hrz n') (hall n') (by simp; omega) hcm
  (by rw [← Array.length_toList, hcur, flat_length _ size (hall c'), List.length_replicate])
  (by rw [hcur, ← flat_take _ size (hall c'), List.take_replicate, List.length_replicate, Nat.min_eq_left (by omega)]) (noFz_zero _)
 unfold runsTo
 have hexec : (execOp a.eval o).run P w = .ok (.value (.slice (some ⟨w.heap.size, 0, none⟩) n' c')) (w.alloc (.cells (madeCells zv.cells (c' * i.size)) e)) := by
  simp only [execOp, ho, e1, e2, Sem.run_bind, hrun, Result.andThen_ok, Sem.run_pure]
 rw [hexec]
 simp only [List.length_replicate] at hrp
 exact ⟨g', hle, hS', hrp⟩
end

section
variable {P : Program} {o : Oper} {s : Slots} {id : Nat}
theorem Sim.mrowAt {W0 : World} {g : Ghost} {σ : Nat → Ent} {n : Nat} {w : World} (h : Sim W0 g σ n w) {r ver : Nat} {e : TypeId} {size : Nat} {xs : List AV} (hx : σ r = .mrow ver e size xs) :
  ∃ u vs, g.mr r = some (ver, u) ∧ slen u = xs.length ∧ vs.length = xs.length ∧ (∀ (i : Nat) (x : AV) (v : Value), xs[i]? = some x → vs[i]? = some v → Rep g x v) ∧ (∀ v ∈ vs, v.cells.size = size) ∧ ownsR w W0.heap.size e size u xs.length (flat vs) := by
 have hE := h.ents r
 rw [hx] at hE
 obtain ⟨_, _, _, u, vs, h1, h2, h3, h4, h5, h6, _⟩ := hE
 exact ⟨u, vs, h1, h2, h3, h4, h5, h6⟩
theorem holds_append_ms {t e : TypeId} {size bytes r ver k : Nat} {z Y : AV} {x y : Operand} {xs ys : List AV} (ho : o.op = .call { callee := .builtin .append, args := #[x, y], argTypes := #[t, t] }) (ht : sliceTy P t = some e) (hs : sizeIs P e size = true) (hb : bytesIs P e bytes = true)
  (hz : ztree P e = some z) (hzs : z.sz = size) (hx : aeval s x = .ms r ver size 0 k) (hk : k ≤ xs.length) (hy : aeval s y = Y) (hY : Y.elems = some ys)
  (hsy : ys.all (fun x => x.sz == size && x.cell) = true) (hbytes : (k + ys.length) * bytes ≤ 140737488355328) (hmx : k + ys.length ≤ maxLen) :
  OpHolds P o s id [(r, .mrow ver e size xs)] (.ms r (ver + 1) size 0 (k + ys.length)) [(r, .mrow (ver + 1) e size (xs.take k ++ ys))] := by
 refine ⟨fun p hp => by simp at hp; subst hp; simp, fun q hq => .inr ⟨(r, .mrow ver e size xs), by simp, by simp at hq; subst hq; rfl⟩, fun W0 g σ n w a hS hr _ _ hp => ?_⟩
 have h1 := hr x (by simp [ho, Op.operands, Call.operands])
 have h2 := hr y (by simp [ho, Op.operands, Call.operands])
 rw [hx] at h1
 rw [hy] at h2
 have hp' : σ r = .mrow ver e size xs := hp (r, .mrow ver e size xs) (by simp)
 obtain ⟨cs, he⟩ := execOp_builtin (P := P) (a := a) ho w
 obtain ⟨i, hi, hsi⟩ := sizeIs_sound hs
 have hbi : i.bytes = bytes := by unfold bytesIs at hb; rw [hi] at hb; simpa using hb
 obtain ⟨i', zv, hi', hzv, hrz⟩ := ztree_sound hz g
 rw [hi] at hi'; cases hi'
 have hzc : zv.cells.size = i.size := by rw [hrz.size, hzs, hsi]
 obtain ⟨u, vs, hmr, hlen, hvl, hvr, hvs, hown⟩ := hS.mrowAt hp'
 have hsy1 : ys.all (fun x => x.sz == size) = true := by
  rw [List.all_eq_true] at hsy ⊢
  intro x hx
  have := hsy x hx
  simp only [Bool.and_eq_true] at this
  exact this.1
 generalize hv : a.eval x = v at h1
 generalize hw : a.eval y = yv at h2
 obtain ⟨A, m, c, us, rfl, rfl, hul, hur, hus, huc⟩ := elems_vals hY h2 hsy1
 have hone : ∀ q ∈ flat us, q.oneCell' = true := by
  intro q hq
  obtain ⟨v, hv, hq⟩ := mem_flat.1 hq
  obtain ⟨j, hj⟩ := List.getElem?_of_mem hv
  have hlt : j < ys.length := by rw [← hul]; exact (List.getElem?_eq_some_iff.1 hj).1
  have hc := List.all_eq_true.1 hsy ys[j] (List.getElem_mem hlt)
  simp only [Bool.and_eq_true] at hc
  exact (hur j _ v (List.getElem?_eq_getElem hlt) hj).cell_ok hc.2 q hq
 have hful : (flat us).length = ys.length * size := by rw [flat_length us size hus, hul]
 have htk : ∀ v ∈ vs.take k, v.cells.size = size := fun v hv => hvs v (List.mem_of_mem_take hv)
 have hftk : flat (vs.take k) = (flat vs).take (k * size) := flat_take vs size hvs k
 cases h1 with
 | ms _ _ _ _ _ ver' u' Ax cx hm' hv' hlx hcx h =>
  rw [hmr] at hm'; cases hm'
  obtain ⟨A0, n0, c0, rfl, j1, j2, j3⟩ := h rfl
  obtain ⟨rfl, rfl⟩ := j2 rfl
  simp only [slen] at hlen
  subst hlen
  have hownk : ownsR w W0.heap.size e size (.slice Ax k cx) k (flat (vs.take k)) := by
   refine ⟨by rw [flat_length _ size htk, List.length_take, hvl, Nat.min_eq_left hk], ?_⟩
   rcases hown.2 with ⟨h0, h00⟩ | ⟨b, cap, cur, fz, hb1, hb2, hb3, hb4, hb5, hb6, hb7, hb8⟩
   ·simp at h0
    obtain ⟨rfl, _, rfl⟩ := h0
    have : k = 0 := by omega
    subst this
    exact .inl ⟨rfl, rfl⟩
   ·simp at hb1
    obtain ⟨rfl, rfl⟩ := hb1
    refine .inr ⟨b, cx, cur, fz, rfl, hb2, hb3, hb4, by omega, hb6, hb7, ?_⟩
    rw [hftk, ← hb8, List.take_take, Nat.min_eq_left (Nat.mul_le_mul_right _ hk)]
  have finish : ∀ (u' : Value) (w' : World), ownsR w' W0.heap.size e size u' (k + ys.length) (flat (vs.take k) ++ flat us) → slen u' = k + ys.length → w'.os = w.os → w'.tape = w.tape → w'.output = w.output → w.heap.size ≤ w'.heap.size →
    (u'.ownBlock = (Value.slice Ax xs.length cx).ownBlock ∨ u'.ownBlock = some w.heap.size) → (∀ j, (Value.slice Ax xs.length cx).ownBlock ≠ some j → j < w.heap.size → w'.heap[j]? = w.heap[j]?) →
    ∃ g', g.le g' ∧ Sim W0 g' (upd σ r (.mrow (ver + 1) e size (xs.take k ++ ys))) n w' ∧ Rep g' (.ms r (ver + 1) size 0 (k + ys.length)) u' := by
   intro u' w' k1 k2 k3 k4 k5 k6 k7 k8
   have hlen' : (xs.take k ++ ys).length = k + ys.length := by rw [List.length_append, List.length_take, Nat.min_eq_left hk]
   obtain ⟨g', hle, hS', hm2, _⟩ := hS.turnM (ver' := ver + 1) (xs' := xs.take k ++ ys) (vs' := vs.take k ++ us) hp' hmr (.inr (Nat.lt_succ_self _)) (by rw [hlen', flat_append]; exact k1) (by rw [hlen']; exact k2) (by simp [hvl, hul])
    (fun j x v h1 h2 => by
     have hxl : (xs.take k).length = k := by rw [List.length_take, Nat.min_eq_left hk]
     have hvl' : (vs.take k).length = k := by rw [List.length_take, hvl, Nat.min_eq_left hk]
     by_cases hj : j < k
     ·rw [List.getElem?_append_left (by omega), List.getElem?_take, if_pos hj] at h1
      rw [List.getElem?_append_left (by omega), List.getElem?_take, if_pos hj] at h2
      exact hvr j x v h1 h2
     ·rw [List.getElem?_append_right (by omega), hxl] at h1
      rw [List.getElem?_append_right (by omega), hvl'] at h2
      exact hur _ x v h1 h2) (fun v hv => (List.mem_append.1 hv).elim (htk v) (hus v)) k3 k4 k5 k6 k7 k8
   refine ⟨g', hle, hS', ?_⟩
   rcases k1.2 with ⟨hv0, hn0⟩ | ⟨g0, cap, cur, fz, hv0, _, _, _, hnc, hcm, _⟩
   ·subst hv0
    rw [hn0]
    exact .ms r (ver + 1) size 0 0 (ver + 1) _ none 0 hm2 (Nat.le_refl _) (Nat.le_refl _) (by unfold maxLen; omega) fun _ => ⟨_, _, _, rfl, by omega, fun _ => ⟨rfl, rfl⟩, fun h => absurd h (by omega)⟩
   ·subst hv0
    exact .ms r (ver + 1) size 0 _ (ver + 1) _ _ cap hm2 (Nat.le_refl _) hnc hcm fun _ => ⟨_, _, _, rfl, by omega, fun _ => ⟨rfl, rfl⟩, fun _ => ⟨g0, rfl, by simp⟩⟩
  have hexec : ∀ u' w', (Builtin.append_ #[t, t] o.type #[.slice Ax k cx, .slice A ys.length c]).run P w = .ok u' w' → (execOp a.eval o).run P w = .ok (.value u') w' := fun u' w' hrun => by
   rw [he]
   simp [builtin, hv, hw, hrun]
  unfold runsTo
  have hownsi : ownsR w W0.heap.size e i.size (.slice Ax k cx) k (flat (vs.take k)) := by rw [hsi]; exact hownk
  by_cases h0 : ys.length = 0
  ·have hrun := run_append_none (P := P) (ty := o.type) (sliceTy_sound ht) hi hownsi (A := A) (c := c)
   rw [← h0] at hrun
   rw [hexec _ _ hrun]
   have hfu : flat us = [] := List.eq_nil_of_length_eq_zero (by rw [hful, h0]; simp)
   exact finish _ w (by rw [hfu, List.append_nil, h0]; exact hownk) (by simp [slen, h0]) rfl rfl rfl (Nat.le_refl _) (.inl (by cases Ax <;> rfl)) fun _ _ _ => rfl
  ·rcases huc with h' | ⟨b, off, rfl, huc⟩
   ·exact absurd h' h0
   ·obtain ⟨u', w', hrun, k1, k2, k3, k4, k5, k6, k7⟩ := run_append_row (P := P) (ty := o.type) (sliceTy_sound ht) hi hzv hzc hownsi (a := ⟨b, off, none⟩) (m := ys.length) (c := c) (news := flat us) (by rw [hsi]; exact hful)
     (fun j q hq => by rw [Addr.add_lit]; exact hS.imm _ _ _ (huc j q hq)) hone (by omega) (by rw [hbi]; exact hbytes) hmx hS.below.size
    rw [hexec _ _ hrun]
    have eqb : (Value.slice Ax k cx).ownBlock = (Value.slice Ax xs.length cx).ownBlock := by cases Ax <;> rfl
    exact finish u' w' (by rw [← hsi]; exact k1) k2 k3 k4 k5 k6 (k7.imp (fun h => h.2.1.trans eqb) (fun h => h.2.1)) (fun j hj hlt => by
     rcases k7 with ⟨_, _, h⟩ | ⟨_, _, h⟩
     ·exact h j (by rw [eqb]; exact hj) hlt
     ·exact h j hlt)
theorem holds_indexAddr_ms {t e : TypeId} {size r ver lo len : Nat} {x i : Operand} {xs : List AV} {k : IntKind} {n : Int} (ho : o.op = .indexAddr t x i) (ht : sliceTy P t = some e) (hs : sizeIs P e size = true) (hx : aeval s x = .ms r ver size lo len) (hi : aeval s i = .lit (.int k n)) (h0 : 0 ≤ n) (hn : n.toNat < len) :
  OpHolds P o s id [(r, .mrow ver e size xs)] (.mp r ver [lo + n.toNat] ((lo + n.toNat) * size)) [] := by
 refine holds_read (fun p hp => by simp at hp; subst hp; simp) fun W0 g σ N w a hS hr hp => ?_
 have h1 := hr x (by simp [ho, Op.operands])
 have h2 := hr i (by simp [ho, Op.operands])
 rw [hx] at h1
 rw [hi] at h2
 have e2 := rep_lit_inv h2
 have hp' : σ r = .mrow ver e size xs := hp (r, .mrow ver e size xs) (by simp)
 obtain ⟨u, vs, hmr, hlen, hvl, hvr, hvs, hown⟩ := hS.mrowAt hp'
 obtain ⟨ie, hie, hsi⟩ := sizeIs_sound hs
 generalize hv : a.eval x = v at h1
 cases h1 with
 | ms _ _ _ _ _ ver' u' A c hm' hv' hl hc h =>
  rw [hmr] at hm'; cases hm'
  obtain ⟨A0, n0, c0, rfl, j1, j2, j3⟩ := h rfl
  obtain ⟨b, rfl, rfl⟩ := j3 (by omega)
  obtain ⟨m, rfl⟩ := Int.eq_ofNat_of_zero_le h0
  simp only [Int.toNat_natCast] at hn ⊢
  refine ⟨.pointer (some ⟨b, (lo + m) * size, none⟩), ?_, .mp r ver _ _ ver _ _ hmr (Nat.le_refl _) fun _ => ⟨b, _, _, rfl, rfl⟩⟩
  have hlt : (m : Int) < (len : Int) := by omega
  simp [execOp, ho, hv, e2, Instr.indexAt, asIntOf, run_underlying (sliceTy_sound ht), sizeOf, typeInfo, hie, hsi, Addr.add_lit, Nat.add_mul]
  omega
theorem holds_fieldAddr_mp {t : TypeId} {x : Operand} {f k i ver off : Nat} {path : List Nat} {e : TypeId} {size : Nat} {xs : List AV} (ho : o.op = .fieldAddr t x f) (hx : aeval s x = .mp i ver path off) (hf : fieldOff P t f = some k) :
  OpHolds P o s id [(i, .mrow ver e size xs)] (.mp i ver (path ++ [f]) (off + k)) [] := by
 refine holds_read (fun p hp => by simp at hp; subst hp; simp) fun W0 g σ N w a hS hr hp => ?_
 have h1 := hr x (by simp [ho, Op.operands])
 rw [hx] at h1
 have hp' : σ i = .mrow ver e size xs := hp (i, .mrow ver e size xs) (by simp)
 obtain ⟨u, vs, hmr, _⟩ := hS.mrowAt hp'
 generalize hv : a.eval x = v at h1
 cases h1 with
 | mp _ _ _ _ ver' u' ad hm' hv' h =>
  rw [hmr] at hm'; cases hm'
  obtain ⟨b, n, c, rfl, rfl⟩ := h rfl
  refine ⟨.pointer (some ⟨b, off + k, none⟩), ?_, .mp i ver _ _ ver _ _ hmr (Nat.le_refl _) fun _ => ⟨b, _, _, rfl, rfl⟩⟩
  have := fieldOff_sound hf b off w
  simp only [execOp, ho, hv, Sem.run_bind, this, Result.andThen_ok, Sem.run_pure]
theorem holds_indexAddr_mp {t e : TypeId} {x i : Operand} {j ver off len size : Nat} {path : List Nat} {k : IntKind} {n : Int} {e' : TypeId} {size' : Nat} {xs : List AV} (ho : o.op = .indexAddr t x i) (ht : arrTy P t = some (len, e)) (hs : sizeIs P e size = true) (hx : aeval s x = .mp j ver path off) (hi : aeval s i = .lit (.int k n)) (h0 : 0 ≤ n) (hn : n.toNat < len) :
  OpHolds P o s id [(j, .mrow ver e' size' xs)] (.mp j ver (path ++ [n.toNat]) (off + n.toNat * size)) [] := by
 refine holds_read (fun p hp => by simp at hp; subst hp; simp) fun W0 g σ N w a hS hr hp => ?_
 have h1 := hr x (by simp [ho, Op.operands])
 have h2 := hr i (by simp [ho, Op.operands])
 rw [hx] at h1
 rw [hi] at h2
 have e2 := rep_lit_inv h2
 have hp' : σ j = .mrow ver e' size' xs := hp (j, .mrow ver e' size' xs) (by simp)
 obtain ⟨u, vs, hmr, _⟩ := hS.mrowAt hp'
 obtain ⟨ie, hie, hsi⟩ := sizeIs_sound hs
 generalize hv : a.eval x = v at h1
 cases h1 with
 | mp _ _ _ _ ver' u' ad hm' hv' h =>
  rw [hmr] at hm'; cases hm'
  obtain ⟨b, n', c, rfl, rfl⟩ := h rfl
  obtain ⟨m, rfl⟩ := Int.eq_ofNat_of_zero_le h0
  simp only [Int.toNat_natCast] at hn ⊢
  refine ⟨.pointer (some ⟨b, off + m * size, none⟩), ?_, .mp j ver _ _ ver _ _ hmr (Nat.le_refl _) fun _ => ⟨b, _, _, rfl, rfl⟩⟩
  have hlt : (m : Int) < (len : Int) := by omega
  simp [execOp, ho, hv, e2, Instr.indexAt, asIntOf, run_underlying (arrTy_sound ht), Instr.sureAddr, sizeOf, typeInfo, hie, hsi, Addr.add_lit]
  omega
theorem row_cells {xs : List AV} {vs : List Value} {path : List Nat} {y : AV} {g : Ghost} (hvl : vs.length = xs.length) (hvr : ∀ (i : Nat) (x : AV) (v : Value), xs[i]? = some x → vs[i]? = some v → Rep g x v) (hg : (AV.agg xs).get path = some y) :
  ∃ u, Rep g y u ∧ (AV.agg xs).offs path + u.cells.size ≤ (flat vs).length ∧ ∀ (j : Nat) (x : Value), u.cells.toList[j]? = some x → (flat vs)[(AV.agg xs).offs path + j]? = some x := by
 obtain ⟨u, h1, h2, h3⟩ := (Rep.agg xs vs hvl hvr).get hg
 exact ⟨u, h1, by simpa [Value.cells] using h2, by simpa [Value.cells] using h3⟩
theorem holds_load_mp {t : TypeId} {x : Operand} {i ver off : Nat} {path : List Nat} {e : TypeId} {size : Nat} {xs : List AV} {y : AV} (ho : o.op = .load t x) (hx : aeval s x = .mp i ver path off) (hy : (AV.agg xs).get path = some y) (hoff : (AV.agg xs).offs path = off) (ht : tyIs P t y.isAgg y.sz = true) :
  OpHolds P o s id [(i, .mrow ver e size xs)] y [] := by
 refine holds_read (fun p hp => by simp at hp; subst hp; simp) fun W0 g σ N w a hS hr hp => ?_
 have h1 := hr x (by simp [ho, Op.operands])
 rw [hx] at h1
 have hp' : σ i = .mrow ver e size xs := hp (i, .mrow ver e size xs) (by simp)
 obtain ⟨u, vs, hmr, hlen, hvl, hvr, hvs, hown⟩ := hS.mrowAt hp'
 obtain ⟨q, hq, hqb, hqc⟩ := row_cells hvl hvr hy
 generalize hv : a.eval x = v at h1
 cases h1 with
 | mp _ _ _ _ ver' u' ad hm' hv' h =>
  rw [hmr] at hm'; cases hm'
  obtain ⟨b, n', c, rfl, rfl⟩ := h rfl
  refine ⟨q, ?_, hq⟩
  have := run_loadAt (P := P) hq ht (b := b) (off := off) (w := w) fun j z hz => by
   rw [← hoff]
   exact hown.cells (g := b) rfl _ _ (hqc j z hz)
  simp [execOp, ho, hv, this]
theorem set_flat {xs : List AV} {vs : List Value} {g : Ghost} (hvl : vs.length = xs.length) (hvr : ∀ (i : Nat) (x : AV) (v : Value), xs[i]? = some x → vs[i]? = some v → Rep g x v) {j : Nat} {p : List Nat} {y z : AV} {u : Value} (hg : (AV.agg xs).get (j :: p) = some y) (hz : Rep g z u) (hs : y.sz = z.sz) :
  ∃ xs' vs', (AV.agg xs).put (j :: p) z = .agg xs' ∧ vs'.length = xs'.length ∧ xs'.length = xs.length ∧ (∀ (i : Nat) (x : AV) (v : Value), xs'[i]? = some x → vs'[i]? = some v → Rep g x v) ∧
   flat vs' = (flat vs).take ((AV.agg xs).offs (j :: p)) ++ u.cells.toList ++ (flat vs).drop ((AV.agg xs).offs (j :: p) + u.cells.size) ∧ (∀ size, (∀ v ∈ vs, v.cells.size = size) → ∀ v ∈ vs', v.cells.size = size) := by
 simp only [AV.get] at hg
 cases hi : xs[j]? with
 | none => rw [hi] at hg; cases hg
 | some q =>
  rw [hi] at hg
  have hlt : j < vs.length := by rw [hvl]; exact (List.getElem?_eq_some_iff.1 hi).1
  have hvj : vs[j]? = some vs[j] := List.getElem?_eq_getElem hlt
  obtain ⟨v', hv', hc'⟩ := (hvr j q _ hi hvj).put hg hz hs
  obtain ⟨wv, hw, hwb, _⟩ := (hvr j q _ hi hvj).get hg
  have hwu : wv.cells.size = u.cells.size := by rw [hw.size, hz.size, hs]
  obtain ⟨hf, hfl⟩ := flat_take_drop xs vs hvl (fun j x w h1 h2 => (hvr j x w h1 h2).size) j _ hvj
  have hsz : v'.cells.size = (vs[j]).cells.size := by
   rw [← Array.length_toList, hc']
   simp only [List.length_append, List.length_take, List.length_drop, Array.length_toList]
   omega
  refine ⟨xs.set j (q.put p z), vs.set j v', by simp only [AV.put, hi], by simp [hvl], by simp, fun i x w h1 h2 => ?_, ?_, fun size hsize v hv => ?_⟩
  ·by_cases hij : i = j
   ·subst hij
    rw [List.getElem?_set_self (by omega)] at h1
    rw [List.getElem?_set_self hlt] at h2
    cases h1; cases h2; exact hv'
   ·rw [List.getElem?_set_ne (Ne.symm hij)] at h1 h2
    exact hvr i x w h1 h2
  ·have e1 : flat (vs.set j v') = flat (vs.take j) ++ v'.cells.toList ++ flat (vs.drop (j + 1)) := by
    have hlt' : j < (vs.set j v').length := by simpa using hlt
    have := (List.take_append_drop j (vs.set j v'))
    rw [← this, flat_append, List.drop_eq_getElem_cons hlt', flat_cons]
    have tk : (vs.set j v').take j = vs.take j := by
     apply List.ext_getElem?
     intro i
     rw [List.getElem?_take, List.getElem?_take]
     split
     ·rw [List.getElem?_set_ne (by omega)]
     ·rfl
    simp [tk, List.drop_set_of_lt, List.append_assoc]
   rw [e1, hc', hf]
   simp only [AV.offs, hi]
   have l1 : (flat (vs.take j)).length = AV.szl (xs.take j) := hfl
   have l2 : q.offs p + u.cells.size ≤ (vs[j]).cells.toList.length := by rw [Array.length_toList]; omega
   rw [List.append_assoc (flat (vs.take j)) (vs[j]).cells.toList (flat (vs.drop (j + 1))), ← l1, List.take_length_add_append, Nat.add_assoc, List.drop_length_add_append, List.take_append_of_le_length (by omega), List.drop_append_of_le_length (by omega)]
   simp [List.append_assoc]
  ·rcases List.mem_or_eq_of_mem_set hv with h | h
   ·exact hsize v h
   ·rw [h, hsz]; exact hsize _ (List.getElem_mem hlt)
theorem row_written {W0 w : World} {e : TypeId} {size b n c off : Nat} {cells news : List Value} (h : ownsR w W0.heap.size e size (.slice (some ⟨b, 0, none⟩) n c) n cells) (hfit : off + news.length ≤ cells.length) (h1 : ∀ v ∈ news, v.oneCell' = true) :
  ∃ w', (storeCells ⟨b, off, none⟩ news 0).run P w = .ok () w' ∧ ownsR w' W0.heap.size e size (.slice (some ⟨b, 0, none⟩) n c) n (cells.take off ++ news ++ cells.drop (off + news.length)) ∧
   w'.os = w.os ∧ w'.tape = w.tape ∧ w'.output = w.output ∧ w.heap.size ≤ w'.heap.size ∧ ∀ j, j ≠ b → w'.heap[j]? = w.heap[j]? := by
 rcases h.2 with ⟨h0, _⟩ | ⟨g0, cap, cur, fz, hv, hb, hheap, hfz, hnc, hcm, hcs, htake⟩
 ·simp at h0
 ·simp at hv
  obtain ⟨rfl, rfl⟩ := hv
  have hcl : cells.length ≤ cur.size := by rw [h.1, hcs]; exact Nat.mul_le_mul_right _ hnc
  have hst := run_storeCells_fz (P := P) b off e fz news 0 cur w hheap hfz (by simp; omega) h1
  simp only [Nat.add_zero] at hst
  have hcz : (cur.toList.take off ++ news ++ cur.toList.drop (off + news.length)).toArray.size = cur.size := by
   simp only [List.size_toArray, List.length_append, List.length_take, List.length_drop, Array.length_toList]
   omega
  have hlen : (cells.take off ++ news ++ cells.drop (off + news.length)).length = n * size := by
   simp only [List.length_append, List.length_take, List.length_drop, ← h.1]
   omega
  refine ⟨_, hst, ⟨hlen, .inr ⟨b, c, _, fz, rfl, hb, setRow_heap w b _ _ _ _ hheap, by rw [hcz]; exact hfz, hnc, hcm, by rw [hcz]; exact hcs, ?_⟩⟩, rfl, rfl, rfl, by simp [World.setRow], fun j hj => setRow_other w b j _ hj⟩
  have e0 : cells = cur.toList.take (n * size) := htake.symm
  show (cur.toList.take off ++ news ++ cur.toList.drop (off + news.length)).take (n * size) = _
  have l0 : cells.length = n * size := h.1
  have lo : off ≤ n * size := by omega
  rw [e0, List.take_take, Nat.min_eq_left lo, List.drop_take, List.take_append, List.take_append, List.take_take]
  have a1 : (cur.toList.take off).length = off := by rw [List.length_take, Array.length_toList]; omega
  rw [Nat.min_eq_right lo, a1, List.take_of_length_le (l := news) (by omega), List.length_append, a1]
theorem holds_store_mp {t : TypeId} {x y : Operand} {i ver off j : Nat} {p : List Nat} {e : TypeId} {size : Nat} {xs xs' : List AV} {old z : AV} (ho : o.op = .store t x y) (hx : aeval s x = .mp i ver (j :: p) off) (hz : aeval s y = z) (hy : (AV.agg xs).get (j :: p) = some old) (hoff : (AV.agg xs).offs (j :: p) = off)
  (hsz : old.sz = z.sz) (ht : sizeIs P t z.sz = true) (hc : z.cell = true) (hput : (AV.agg xs).put (j :: p) z = .agg xs') : OpHolds P o s id [(i, .mrow ver e size xs)] (.tup []) [(i, .mrow ver e size xs')] := by
 refine ⟨fun p hp => by simp at hp; subst hp; simp, fun q hq => .inr ⟨(i, .mrow ver e size xs), by simp, by simp at hq; subst hq; rfl⟩, fun W0 g σ n w a hS hr _ _ hp => ?_⟩
 have h1 := hr x (by simp [ho, Op.operands])
 have h2 := hr y (by simp [ho, Op.operands])
 rw [hx] at h1
 rw [hz] at h2
 generalize hv : a.eval x = v at h1
 generalize hu : a.eval y = zv at h2
 have hp' : σ i = .mrow ver e size xs := hp (i, .mrow ver e size xs) (by simp)
 obtain ⟨u, vs, hmr, hlen, hvl, hvr, hvs, hown⟩ := hS.mrowAt hp'
 obtain ⟨q, hq, hqb, _⟩ := row_cells hvl hvr hy
 have hqz : q.cells.size = zv.cells.size := by rw [hq.size, h2.size, hsz]
 obtain ⟨xs2, vs', k1, k2, k3, k4, k5, k6⟩ := set_flat hvl hvr hy h2 hsz
 rw [hput] at k1
 cases k1
 cases h1 with
 | mp _ _ _ _ ver' u' ad hm' hv' h =>
  rw [hmr] at hm'; cases hm'
  obtain ⟨b, n', c, rfl, rfl⟩ := h rfl
  simp only [slen] at hlen
  subst hlen
  obtain ⟨w', hst, l1, l2, l3, l4, l5, l6⟩ := row_written (P := P) (off := off) (news := zv.cells.toList) hown (by rw [← hoff, Array.length_toList, ← hqz]; exact hqb) (h2.cell_ok hc)
  obtain ⟨ti, hti, htis⟩ := sizeIs_sound ht
  have hexec : (execOp a.eval o).run P w = .ok .skip w' := by
   simp [execOp, ho, hv, hu, Instr.storeAt, Instr.sureAddr, storeVar, sizeOf, typeInfo, hti, htis, h2.size, hst]
  unfold runsTo
  rw [hexec]
  rw [hoff] at k5
  have e1 : zv.cells.toList.length = zv.cells.size := Array.length_toList
  rw [e1, ← k5] at l1
  obtain ⟨g', hle, hS', _, _⟩ := hS.turnM (ver' := ver) (xs' := xs') (vs' := vs') hp' hmr (.inl ⟨rfl, rfl⟩) (by rw [k3]; exact l1) (by simp [slen, k3]) k2 k4 (k6 size hvs) l2 l3 l4 l5 (.inl rfl) (fun j hj _ => l6 j (fun e => hj (by rw [e]; rfl)))
  exact ⟨g', hle, hS', .tup [] [] rfl fun i x v h _ => by simp at h⟩
theorem holds_len_ms {t e : TypeId} {x : Operand} {r ver size lo len : Nat} (ho : o.op = .call { callee := .builtin .len, args := #[x], argTypes := #[t] }) (ht : sliceTy P t = some e) (hx : aeval s x = .ms r ver size lo len) : OpHolds P o s id [] (.lit (.int .i64 len)) [] :=
 holds_pure fun g w a hr => by
  have h1 := hr x (by simp [ho, Op.operands, Call.operands])
  rw [hx] at h1
  obtain ⟨cs, he⟩ := execOp_builtin (P := P) (a := a) ho w
  generalize hv : a.eval x = v at h1
  cases h1
  refine ⟨_, ?_, .lit _ rfl⟩
  rw [he]
  simp [builtin, Builtin.len_, hv, run_underlying (sliceTy_sound ht), goInt]
theorem holds_slice_ms {t e : TypeId} {x : Operand} {lo hi : Option Operand} {r ver size l0 len l h : Nat} {xs : List AV} (ho : o.op = .slice t x lo hi none) (ht : sliceTy P t = some e) (hs : sizeIs P e size = true) (hx : aeval s x = .ms r ver size l0 len)
  (hl : bnd s 0 lo = some l) (hh : bnd s len hi = some h) (h1 : l ≤ h) (h2 : h ≤ len) : OpHolds P o s id [(r, .mrow ver e size xs)] (.ms r ver size (l0 + l) (h - l)) [] := by
 refine holds_read (fun p hp => by simp at hp; subst hp; simp) fun W0 g σ N w a hS hr hp => ?_
 have h3 := hr x (by simp [ho, Op.operands])
 have hlo : ∀ x, lo = some x → Rep g (aeval s x) (a.eval x) := fun x hx => hr x (by simp [ho, Op.operands, hx])
 have hhi : ∀ x, hi = some x → Rep g (aeval s x) (a.eval x) := fun x hx => hr x (by simp [ho, Op.operands, hx])
 rw [hx] at h3
 have hp' : σ r = .mrow ver e size xs := hp (r, .mrow ver e size xs) (by simp)
 obtain ⟨u, vs, hmr, hlen, hvl, hvr, hvs, hown⟩ := hS.mrowAt hp'
 obtain ⟨ie, hie, hsi⟩ := sizeIs_sound hs
 generalize hv : a.eval x = v at h3
 cases h3 with
 | ms _ _ _ _ _ ver' u' A c hm' hv' hlc hc hM =>
  rw [hmr] at hm'; cases hm'
  obtain ⟨A0, n0, c0, rfl, j1, j2, j3⟩ := hM rfl
  have hb := run_bounds (P := P) hl hh hlo hhi h1 (by omega : h ≤ c) true w
  refine ⟨.slice (if c = l then A else A.map (·.add (l * size))) (h - l) (c - l), ?_, .ms r ver size (l0 + l) (h - l) ver _ _ (c - l) hmr (Nat.le_refl _) (by omega) (by omega) fun _ => ⟨A0, n0, c0, rfl, ?_, fun hz => ?_, fun hz => ?_⟩⟩
  ·simp only [execOp, ho, Sem.run_bind, Instr.sliceAt, run_underlying (sliceTy_sound ht), Result.andThen_ok, hv, Instr.slice, Option.map_none, hb, sizeOf, typeInfo, run_program, hie, Sem.run_pure, hsi]
  ·have : l0 + len ≤ c0 := j1
   omega
  ·have hl0 : l0 = 0 := by omega
   have hl' : l = 0 := by omega
   subst hl0 hl'
   obtain ⟨rfl, rfl⟩ := j2 rfl
   refine ⟨?_, by omega⟩
   split
   ·rfl
   ·cases A <;> simp [Addr.add]
  ·obtain ⟨b, rfl, rfl⟩ := j3 (by omega)
   refine ⟨b, rfl, ?_⟩
   rw [if_neg (by omega)]
   simp [Addr.add_lit, Nat.add_mul]
end
end Go.Ab
