/- Trees: a part of a tree and where its cells lie; a tree with one part turned; literals. -/
import Derived.Test.YtaelnglalpiemaaDoorA3
namespace Go.Ab
open Go.RowKit

def AV.get : AV → List Nat → Option AV
  | x, [] => some x
  | .agg xs, i :: p => match xs[i]? with
    | some y => y.get p
    | none => none
  | _, _ :: _ => none

def AV.offs : AV → List Nat → Nat
  | _, [] => 0
  | .agg xs, i :: p => AV.szl (xs.take i) + match xs[i]? with
    | some y => y.offs p
    | none => 0
  | _, _ :: _ => 0

def AV.put : AV → List Nat → AV → AV
  | _, [], z => z
  | .agg xs, i :: p, z => match xs[i]? with
    | some y => .agg (xs.set i (y.put p z))
    | none => .agg xs
  | x, _ :: _, _ => x

mutual
def AV.cell : AV → Bool
  | .agg xs => AV.celll xs
  | .tup _ => false
  | _ => true
def AV.celll : List AV → Bool
  | [] => true
  | x :: r => AV.cell x && AV.celll r
end

theorem AV.celll_all (xs : List AV) : AV.celll xs = xs.all AV.cell := by
  induction xs with
  | nil => rfl
  | cons x r ih => simp [AV.celll, ih]

theorem flat_take_drop (xs : List AV) (vs : List Value) (hl : vs.length = xs.length) (h : ∀ (i : Nat) (x : AV) (v : Value), xs[i]? = some x → vs[i]? = some v → v.cells.size = x.sz) (i : Nat) (v : Value) (hv : vs[i]? = some v) :
    flat vs = flat (vs.take i) ++ v.cells.toList ++ flat (vs.drop (i + 1)) ∧ (flat (vs.take i)).length = AV.szl (xs.take i) := by
  have hi : i < vs.length := (List.getElem?_eq_some_iff.1 hv).1
  constructor
  · conv => lhs; rw [← List.take_append_drop i vs]
    rw [flat_append, List.drop_eq_getElem_cons hi, flat_cons, (List.getElem?_eq_some_iff.1 hv).2, List.append_assoc]
  · refine flat_size_of _ _ (by simp [hl]) fun j x u h1 h2 => ?_
    rw [List.getElem?_take] at h1 h2
    split at h1
    · rename_i hj; rw [if_pos hj] at h2; exact h j x u h1 h2
    · cases h1

theorem cells_agg (cs : Array Value) : (Value.agg cs).cells = cs := rfl

theorem Rep.get {g : Ghost} {c : AV} {v : Value} (h : Rep g c v) {path : List Nat} {y : AV} (hp : c.get path = some y) :
    ∃ u, Rep g y u ∧ c.offs path + u.cells.size ≤ v.cells.size ∧ ∀ (j : Nat) (x : Value), u.cells.toList[j]? = some x → v.cells.toList[c.offs path + j]? = some x := by
  induction path generalizing c v with
  | nil =>
    simp only [AV.get, Option.some.injEq] at hp
    subst hp
    exact ⟨v, h, by simp [AV.offs], fun j x hx => by simpa [AV.offs] using hx⟩
  | cons i p ih =>
    cases c with
    | agg xs =>
      cases h with
      | agg _ vs hl hr =>
        simp only [AV.get] at hp
        cases hi : xs[i]? with
        | none => rw [hi] at hp; cases hp
        | some z =>
          rw [hi] at hp
          have hlt : i < vs.length := by rw [hl]; exact (List.getElem?_eq_some_iff.1 hi).1
          have hvi : vs[i]? = some vs[i] := List.getElem?_eq_getElem hlt
          obtain ⟨u, hu, hb, hc⟩ := ih (hr i z _ hi hvi) hp
          obtain ⟨hf, hfl⟩ := flat_take_drop xs vs hl (fun j x w h1 h2 => (hr j x w h1 h2).size) i _ hvi
          refine ⟨u, hu, ?_, fun j x hx => ?_⟩
          · simp only [AV.offs, hi, cells_agg, List.size_toArray]
            rw [hf, List.length_append, List.length_append, hfl, Array.length_toList]
            omega
          · simp only [AV.offs, hi, cells_agg]
            have := hc j x hx
            have hlt2 : z.offs p + j < (vs[i]).cells.toList.length := (List.getElem?_eq_some_iff.1 this).1
            rw [hf, List.append_assoc, Nat.add_assoc, List.getElem?_append_right (by omega), hfl, List.getElem?_append_left (by omega)]
            rw [← this]; congr 1; omega
    | _ => simp [AV.get] at hp

theorem Rep.put {g : Ghost} {c : AV} {v : Value} (h : Rep g c v) {path : List Nat} {y z : AV} {u : Value} (hp : c.get path = some y) (hz : Rep g z u) (hs : y.sz = z.sz) :
    ∃ v', Rep g (c.put path z) v' ∧ v'.cells.toList = v.cells.toList.take (c.offs path) ++ u.cells.toList ++ v.cells.toList.drop (c.offs path + u.cells.size) := by
  induction path generalizing c v with
  | nil =>
    simp only [AV.get, Option.some.injEq] at hp
    subst hp
    refine ⟨u, hz, ?_⟩
    have : u.cells.size = v.cells.size := by rw [hz.size, h.size, hs]
    simp [AV.offs, this]
  | cons i p ih =>
    cases c with
    | agg xs =>
      cases h with
      | agg _ vs hl hr =>
        simp only [AV.get] at hp
        cases hi : xs[i]? with
        | none => rw [hi] at hp; cases hp
        | some q =>
          rw [hi] at hp
          have hlt : i < vs.length := by rw [hl]; exact (List.getElem?_eq_some_iff.1 hi).1
          have hvi : vs[i]? = some vs[i] := List.getElem?_eq_getElem hlt
          obtain ⟨v', hv', hc'⟩ := ih (hr i q _ hi hvi) hp
          obtain ⟨w, hw, hwb, _⟩ := (hr i q _ hi hvi).get hp
          have hwu : w.cells.size = u.cells.size := by rw [hw.size, hz.size, hs]
          obtain ⟨hf, hfl⟩ := flat_take_drop xs vs hl (fun j x w h1 h2 => (hr j x w h1 h2).size) i _ hvi
          simp only [AV.put, hi]
          refine ⟨.agg (flat (vs.set i v')).toArray, .agg _ _ (by simp [hl]) (fun j x' w' h1 h2 => ?_), ?_⟩
          · by_cases hj : j = i
            · subst hj
              have hx : j < xs.length := by omega
              rw [List.getElem?_set_self hx] at h1
              rw [List.getElem?_set_self hlt] at h2
              cases h1; cases h2; exact hv'
            · rw [List.getElem?_set_ne (Ne.symm hj)] at h1 h2
              exact hr j x' w' h1 h2
          · simp only [cells_agg, AV.offs, hi]
            have e1 : flat (vs.set i v') = flat (vs.take i) ++ v'.cells.toList ++ flat (vs.drop (i + 1)) := by
              have hlt' : i < (vs.set i v').length := by simpa using hlt
              have := (List.take_append_drop i (vs.set i v'))
              rw [← this, flat_append, List.drop_eq_getElem_cons hlt', flat_cons]
              have tk : (vs.set i v').take i = vs.take i := by
                apply List.ext_getElem?
                intro j
                rw [List.getElem?_take, List.getElem?_take]
                split
                · rw [List.getElem?_set_ne (by omega)]
                · rfl
              simp [tk, List.drop_set_of_lt, List.append_assoc]
            show flat (vs.set i v') = _
            rw [e1, hc', hf]
            have l1 : (flat (vs.take i)).length = AV.szl (xs.take i) := hfl
            have l2 : q.offs p + u.cells.size ≤ (vs[i]).cells.toList.length := by rw [Array.length_toList]; omega
            rw [List.append_assoc (flat (vs.take i)) (vs[i]).cells.toList (flat (vs.drop (i + 1))), ← l1, List.take_length_add_append, Nat.add_assoc, List.drop_length_add_append, List.take_append_of_le_length (by omega), List.drop_append_of_le_length (by omega)]
            simp [List.append_assoc]
    | _ => simp [AV.get] at hp

theorem Rep.cell_ok {g : Ghost} {x : AV} {v : Value} (h : Rep g x v) (hx : x.cell = true) : ∀ u ∈ v.cells.toList, u.oneCell' = true := by
  induction h with
  | agg xs vs hl _ ih =>
    intro u hu
    simp only [Value.cells] at hu
    obtain ⟨v, hv, hu⟩ := mem_flat.1 hu
    obtain ⟨i, hi⟩ := List.getElem?_of_mem hv
    have hlt : i < xs.length := by rw [← hl]; exact (List.getElem?_eq_some_iff.1 hi).1
    have hc : xs[i].cell = true := by
      simp only [AV.cell, AV.celll_all, List.all_eq_true] at hx
      exact hx _ (List.getElem_mem hlt)
    exact ih i xs[i] v (List.getElem?_eq_getElem hlt) hi hc u hu
  | tup => simp [AV.cell] at hx
  | any v h => intro u hu; rw [oneCell_cells h] at hu; simp at hu; subst hu; exact h
  | lit v h => intro u hu; rw [oneCell_cells h] at hu; simp at hu; subst hu; exact h
  | nils => intro u hu; simp [Value.cells] at hu; subst hu; rfl
  | slice => intro u hu; simp [Value.cells] at hu; subst hu; rfl
  | ptr => intro u hu; simp [Value.cells] at hu; subst hu; rfl
  | view => intro u hu; simp [Value.cells] at hu; subst hu; rfl
  | fn => intro u hu; simp [Value.cells] at hu; subst hu; rfl
  | clip => intro u hu; simp [Value.cells] at hu; subst hu; rfl
  | ms => intro u hu; simp [Value.cells] at hu; subst hu; rfl
  | mp => intro u hu; simp [Value.cells] at hu; subst hu; rfl
  | bs => intro u hu; simp [Value.cells] at hu; subst hu; rfl
  | iface => intro u hu; simp [Value.cells] at hu; subst hu; rfl

/-! ### Literal trees -/

mutual
def AV.flatLit : AV → List Value
  | .lit v => [v]
  | .nils => [.slice none 0 0]
  | .agg xs => AV.flatLits xs
  | _ => []
def AV.flatLits : List AV → List Value
  | [] => []
  | x :: r => AV.flatLit x ++ AV.flatLits r
end
mutual
def AV.litOK : AV → Bool
  | .lit v => v.oneCell'
  | .nils => true
  | .agg xs => AV.litOKs xs
  | _ => false
def AV.litOKs : List AV → Bool
  | [] => true
  | x :: r => AV.litOK x && AV.litOKs r
end

mutual
theorem AV.rep_lit (g : Ghost) : ∀ (x : AV), x.litOK = true → ∃ v, Rep g x v ∧ v.cells.toList = x.flatLit
  | .lit v, h => ⟨v, .lit v h, by rw [oneCell_cells h]; rfl⟩
  | .nils, _ => ⟨_, .nils, rfl⟩
  | .agg xs, h => by
    obtain ⟨vs, hl, hr, hc⟩ := AV.rep_lits g xs h
    exact ⟨_, .agg xs vs hl hr, by simpa [Value.cells, AV.flatLit] using hc⟩
theorem AV.rep_lits (g : Ghost) : ∀ (xs : List AV), AV.litOKs xs = true → ∃ vs : List Value, vs.length = xs.length ∧ (∀ (i : Nat) (x : AV) (v : Value), xs[i]? = some x → vs[i]? = some v → Rep g x v) ∧ flat vs = AV.flatLits xs
  | [], _ => ⟨[], rfl, fun i x v h _ => by simp at h, rfl⟩
  | x :: r, h => by
    simp only [AV.litOKs, Bool.and_eq_true] at h
    obtain ⟨v, hv, hc⟩ := AV.rep_lit g x h.1
    obtain ⟨vs, hl, hr, hcs⟩ := AV.rep_lits g r h.2
    refine ⟨v :: vs, by simp [hl], fun i y u h1 h2 => ?_, by rw [flat_cons, hc, hcs]; rfl⟩
    cases i with
    | zero => simp at h1 h2; subst h1; subst h2; exact hv
    | succ i => exact hr i y u (by simpa using h1) (by simpa using h2)
end

mutual
theorem AV.cell_of_lit : ∀ (x : AV), x.litOK = true → x.cell = true
  | .lit _, _ => rfl
  | .nils, _ => rfl
  | .agg xs, h => AV.celll_of_lits xs h
theorem AV.celll_of_lits : ∀ (xs : List AV), AV.litOKs xs = true → AV.celll xs = true
  | [], _ => rfl
  | x :: r, h => by
    simp only [AV.litOKs, Bool.and_eq_true] at h
    simp only [AV.celll, Bool.and_eq_true]
    exact ⟨AV.cell_of_lit x h.1, AV.celll_of_lits r h.2⟩
end

/-- Are two plain values one? Sound; it asks no more than a zero value's parts want. -/
def valEq : Value → Value → Bool
  | .bool a, .bool b => a == b
  | .int j a, .int k b => j == k && a == b
  | .string a, .string b => a.size == 0 && b.size == 0
  | .pointer none, .pointer none => true
  | .slice none 0 0, .slice none 0 0 => true
  | .map none, .map none => true
  | .nilFunc, .nilFunc => true
  | .nilIface, .nilIface => true
  | _, _ => false

theorem valEq_sound {a b : Value} (h : valEq a b = true) : a = b := by
  unfold valEq at h
  split at h
  · simp at h; rw [h]
  · simp at h; rw [h.1, h.2]
  · rename_i a b
    simp at h
    rw [h.1, h.2]
  all_goals first | rfl | cases h

def valsEq : List Value → List Value → Bool
  | [], [] => true
  | a :: r, b :: q => valEq a b && valsEq r q
  | _, _ => false

theorem valsEq_sound : ∀ {a b : List Value}, valsEq a b = true → a = b
  | [], [], _ => rfl
  | a :: r, b :: q, h => by
    simp only [valsEq, Bool.and_eq_true] at h
    rw [valEq_sound h.1, valsEq_sound h.2]
  | [], _ :: _, h => by simp [valsEq] at h
  | _ :: _, [], h => by simp [valsEq] at h

/-- The zero value of a type, as a tree. -/
def ztOf (P : Program) : Nat → TypeId → AV
  | 0, _ => .any
  | d + 1, t => match P.underlying t with
    | some .bool => .lit (.bool false)
    | some (.int k) => .lit (.int k 0)
    | some .string => .lit (.string ByteArray.empty)
    | some (.pointer _) => .lit (.pointer none)
    | some (.slice _) => .nils
    | some (.map _ _) => .lit (.map none)
    | some (.func _ _ _) => .lit .nilFunc
    | some (.interface _) => .lit .nilIface
    | some (.struct fs) => .agg (fs.toList.map fun f => ztOf P d f.type)
    | some (.array n e) => .agg (List.replicate n (ztOf P d e))
    | _ => .any

def valAgg : Value → Bool
  | .agg _ => true
  | _ => false
def valTup : Value → Bool
  | .tuple _ => true
  | _ => false

def ztree (P : Program) (t : TypeId) : Option AV :=
  let x := ztOf P 8 t
  match P.info? t with
  | some i => match i.zero with
    | some z => if x.litOK && valsEq x.flatLit z.cells.toList && (x.isAgg == valAgg z) && !(valTup z) then some x else none
    | none => none
  | none => none

theorem Rep.of_cells {g : Ghost} {x : AV} {u z : Value} (h : Rep g x u) (hc : u.cells.toList = z.cells.toList) (ha : x.isAgg = valAgg z) (ht : valTup z = false) (hx : x.cell = true) : Rep g x z := by
  cases z with
  | agg cs =>
    cases h <;> simp [AV.isAgg, valAgg] at ha
    case agg xs vs hl hr =>
      have : cs = (flat vs).toArray := by
        simp only [Value.cells] at hc
        rw [hc]
      rw [this]; exact .agg xs vs hl hr
  | tuple => simp [valTup] at ht
  | _ =>
    have h1 : x.one = true := by cases x <;> simp_all [AV.isAgg, AV.one, AV.cell, valAgg]
    rw [h.cells_one h1] at hc
    simp [Value.cells] at hc
    rw [← hc]; exact h

theorem ztree_sound {P : Program} {t : TypeId} {x : AV} (h : ztree P t = some x) (g : Ghost) : ∃ i z, P.info? t = some i ∧ i.zero = some z ∧ Rep g x z := by
  unfold ztree at h
  simp only at h
  split at h
  · rename_i i hi
    split at h
    · rename_i z hz
      split at h
      · rename_i hc
        simp only [Bool.and_eq_true, beq_iff_eq, Bool.not_eq_true'] at hc
        cases h
        obtain ⟨v, hv, hvc⟩ := AV.rep_lit g _ hc.1.1.1
        refine ⟨i, z, hi, hz, hv.of_cells (hvc.trans (valsEq_sound hc.1.1.2)) hc.1.2 hc.2 ?_⟩
        exact AV.cell_of_lit _ hc.1.1.1
      · cases h
    · cases h
  · cases h
end Go.Ab
