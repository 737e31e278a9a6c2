/- append and make as operations; bytes to a string. -/
import Derived.Test.YtaelnglalpiemaaDoorA8
import Derived.Laws.BytesString
import Derived.Laws.MakeOwn
namespace Go.Ab
open Go.RowKit

section
variable {P : Program} {o : Oper} {s : Slots} {id : Nat}

/-- append to a row of one's own. -/
theorem holds_append_own {t e : TypeId} {size bytes r : Nat} {z Y : AV} {x y : Operand} {xs ys : List AV} (ho : o.op = .call { callee := .builtin .append, args := #[x, y], argTypes := #[t, t] }) (ht : sliceTy P t = some e) (hs : sizeIs P e size = true) (hb : bytesIs P e bytes = true)
    (hz : ztree P e = some z) (hzs : z.sz = size) (hx : aeval s x = .slice (some r) xs) (hy : aeval s y = Y) (hY : Y.elems = some ys)
    (hsx : xs.all (fun x => x.sz == size) = true) (hsy : ys.all (fun x => x.sz == size && x.cell) = true) (hbytes : (xs.length + ys.length) * bytes ≤ 140737488355328) (hmx : xs.length + ys.length ≤ maxLen) :
    OpHolds P o s id [(r, .row e size xs.length)] (.slice (some r) (xs ++ ys)) [(r, .row e size (xs.length + ys.length))] := by
  refine ⟨fun p hp => by simp at hp; subst hp; simp, fun q hq => .inr ⟨(r, .row e size xs.length), by simp, by simp at hq; subst hq; rfl⟩, fun W0 g σ n w a hS hr _ _ hp => ?_⟩
  have h1 := hr x (by simp [ho, Op.operands, Call.operands])
  have h2 := hr y (by simp [ho, Op.operands, Call.operands])
  rw [hx] at h1
  rw [hy] at h2
  have hp' : σ r = .row e size xs.length := hp (r, .row e size xs.length) (by simp)
  obtain ⟨cs, he⟩ := execOp_builtin (P := P) (a := a) ho w
  have hE := hS.ents r
  rw [hp'] at hE
  obtain ⟨hl, u, cells, hu, hlen, _⟩ := hE
  have hxu : a.eval x = u := by
    generalize hv : a.eval x = v at h1
    cases h1 with
    | slice _ _ vs A c size' hvl hc hm hvr hvs hcell hown' =>
      obtain ⟨u', hu', _, h3⟩ := hown' r rfl
      rw [hu] at hu'
      cases hu'
      exact h3 hlen.symm
  obtain ⟨u', w', g', hrun, hle, hS', hrep⟩ := append_core (P := P) (ty := o.type) ht hs hb hz hzs hS hp' hu rfl (.inr (by rw [← hxu]; exact h1)) hY h2 hsx hsy hbytes hmx
  unfold runsTo
  have hexec : (execOp a.eval o).run P w = .ok (.value u') w' := by
    rw [he]
    simp [builtin, hxu, hrun]
  rw [hexec]
  exact ⟨g', hle, hS', hrep⟩

/-- append to nil: a new row. -/
theorem holds_append_nils {t e : TypeId} {size bytes : Nat} {z Y : AV} {x y : Operand} {ys : List AV} (ho : o.op = .call { callee := .builtin .append, args := #[x, y], argTypes := #[t, t] }) (ht : sliceTy P t = some e) (hs : sizeIs P e size = true) (hb : bytesIs P e bytes = true)
    (hz : ztree P e = some z) (hzs : z.sz = size) (hx : aeval s x = .nils) (hy : aeval s y = Y) (hY : Y.elems = some ys)
    (hsy : ys.all (fun x => x.sz == size && x.cell) = true) (hbytes : ys.length * bytes ≤ 140737488355328) (hmx : ys.length ≤ maxLen) :
    OpHolds P o s id [] (.slice (some id) ys) [(id, .row e size ys.length)] := by
  refine ⟨fun p hp => (by cases hp), fun q hq => .inl (by simp at hq; subst hq; rfl), fun W0 g σ n w a hS hr hf hn _ => ?_⟩
  have h1 := hr x (by simp [ho, Op.operands, Call.operands])
  have h2 := hr y (by simp [ho, Op.operands, Call.operands])
  rw [hx] at h1
  rw [hy] at h2
  have hxu : a.eval x = .slice none 0 0 := by
    generalize hv : a.eval x = v at h1
    cases h1; rfl
  obtain ⟨cs, he⟩ := execOp_builtin (P := P) (a := a) ho w
  obtain ⟨g1, hle1, hS1, hrow1, _⟩ := hS.addRow (k := id) (e := e) (size := size) (m := 0) (u := .slice none 0 0) (cells := []) hf hn (ownsR_nil w _ e size) rfl (fun b hb => by simp [Value.ownBlock] at hb) (fun b hb => by simp [Value.ownBlock] at hb)
  obtain ⟨u', w', g', hrun, hle, hS', hrep⟩ := append_core (P := P) (ty := o.type) (xs := []) ht hs hb hz hzs hS1 (upd_same _ _ _) hrow1 rfl (.inl rfl) hY (h2.mono hle1) rfl hsy (by simpa using hbytes) (by simpa using hmx)
  unfold runsTo
  have hexec : (execOp a.eval o).run P w = .ok (.value u') w' := by
    rw [he]
    simp [builtin, hxu, hrun]
  rw [hexec]
  refine ⟨g', hle1.trans hle, ?_, by simpa using hrep⟩
  rw [upd_upd] at hS'
  simpa [wr] using hS'

/-- append to a slice without spare places. -/
theorem holds_append_clip {t e : TypeId} {size bytes : Nat} {z Y : AV} {x y : Operand} {xs ys : List AV} (ho : o.op = .call { callee := .builtin .append, args := #[x, y], argTypes := #[t, t] }) (ht : sliceTy P t = some e) (hs : sizeIs P e size = true) (hb : bytesIs P e bytes = true)
    (hz : ztree P e = some z) (hzs : z.sz = size) (hx : aeval s x = .clip xs) (hy : aeval s y = Y) (hY : Y.elems = some ys)
    (hsx : xs.all (fun x => x.sz == size) = true) (hsy : ys.all (fun x => x.sz == size && x.cell) = true) (hbytes : (xs.length + ys.length) * bytes ≤ 140737488355328) (hmx : xs.length + ys.length ≤ maxLen) :
    OpHolds P o s id [] (.slice (some id) (xs ++ ys)) [(id, .row e size (xs.length + ys.length))] := by
  refine ⟨fun p hp => (by cases hp), fun q hq => .inl (by simp at hq; subst hq; rfl), fun W0 g σ n w a hS hr hf hn _ => ?_⟩
  have h1 := hr x (by simp [ho, Op.operands, Call.operands])
  have h2 := hr y (by simp [ho, Op.operands, Call.operands])
  rw [hx] at h1
  rw [hy] at h2
  obtain ⟨cs, he⟩ := execOp_builtin (P := P) (a := a) ho w
  generalize hv : a.eval x = v at h1
  cases h1 with
  | clip _ A m hcl =>
    obtain ⟨g1, hle1, hS1, hrow1, hrep1⟩ := hS.ofClip (k := id) (e := e) (size := size) hf hn hcl hsx
    obtain ⟨u', w', g', hrun, hle, hS', hrep⟩ := append_core (P := P) (ty := o.type) (xs := xs) ht hs hb hz hzs hS1 (upd_same _ _ _) hrow1 rfl (.inr hrep1) hY (h2.mono hle1) hsx hsy hbytes hmx
    unfold runsTo
    have hexec : (execOp a.eval o).run P w = .ok (.value u') w' := by
      rw [he]
      simp [builtin, hv, hrun]
    rw [hexec]
    refine ⟨g', hle1.trans hle, ?_, hrep⟩
    rw [upd_upd] at hS'
    simpa [wr] using hS'

/-- make([]T, n), make([]T, n, c). -/
theorem holds_makeSlice {t e : TypeId} {size bytes : Nat} {z : AV} {x y : Operand} {k k' : IntKind} {n c : Int} (ho : o.op = .makeSlice t x y) (ht : sliceTy P t = some e) (hs : sizeIs P e size = true) (hb : bytesIs P e bytes = true) (hz : ztree P e = some z) (hzs : z.sz = size) (hpos : 0 < size)
    (hx : aeval s x = .lit (.int k n)) (hy : aeval s y = .lit (.int k' c)) (h0 : 0 ≤ n) (h1 : n ≤ c) (h2 : c ≤ 140737488355328) (h3 : bytes * c ≤ 140737488355328) :
    OpHolds P o s id [] (.slice (some id) (List.replicate n.toNat z)) [(id, .row e size n.toNat)] := by
  refine ⟨fun p hp => (by cases hp), fun q hq => .inl (by simp at hq; subst hq; rfl), fun W0 g σ N w a hS hr hf hn _ => ?_⟩
  have e1 := hr x (by simp [ho, Op.operands])
  have e2 := hr y (by simp [ho, Op.operands])
  rw [hx] at e1
  rw [hy] at e2
  have e1 := rep_lit_inv e1
  have e2 := rep_lit_inv e2
  obtain ⟨i, hi, hsi⟩ := sizeIs_sound hs
  have hbi : i.bytes = bytes := by unfold bytesIs at hb; rw [hi] at hb; simpa using hb
  obtain ⟨i', zv, hi', hzv, hrz⟩ := ztree_sound hz g
  rw [hi] at hi'; cases hi'
  have hzc : zv.cells.size = size := by rw [hrz.size, hzs]
  obtain ⟨n', rfl⟩ := Int.eq_ofNat_of_zero_le h0
  obtain ⟨c', rfl⟩ := Int.eq_ofNat_of_zero_le (Int.le_trans h0 h1)
  have hc0 : (0 : Int) ≤ (c' : Int) := by omega
  have hbc : (i.bytes : Int) * (c' : Int) ≤ 281474976710656 := by rw [hbi]; omega
  have hrun := run_make (P := P) w t e i zv (sliceTy_sound ht) hi hzv k k' (n' : Int) (c' : Int) h0 h1 hbc (by omega)
  simp only [Int.toNat_natCast] at hrun ⊢
  have hcur : (madeCells zv.cells (c' * i.size)).toList = flat (List.replicate c' zv) := by
    rw [hsi]; exact flat_replicate c' zv size hzc hpos
  have hfl : (flat (List.replicate n' zv)).length = n' * size := by rw [flat_length _ size (fun v hv => by rw [List.eq_of_mem_replicate hv]; exact hzc), List.length_replicate]
  have hcm : c' ≤ maxLen := by unfold maxLen; omega
  obtain ⟨g', hle, hS', hrow, hG⟩ := hS.newRow (e := e) (size := size) (m := n') (cells := flat (List.replicate n' zv)) hf hn (madeCells zv.cells (c' * i.size)) c' hfl (by omega) hcm
    (by rw [← Array.length_toList, hcur, flat_length _ size (fun v hv => by rw [List.eq_of_mem_replicate hv]; exact hzc), List.length_replicate])
    (by rw [hcur, ← flat_take _ size (fun v hv => by rw [List.eq_of_mem_replicate hv]; exact hzc), List.take_replicate, Nat.min_eq_left (by omega)])
  unfold runsTo
  have hexec : (execOp a.eval o).run P w = .ok (.value (.slice (some ⟨w.heap.size, 0, none⟩) n' c')) (w.alloc (.cells (madeCells zv.cells (c' * i.size)) e)) := by
    simp only [execOp, ho, e1, e2, Sem.run_bind, hrun, Result.andThen_ok, Sem.run_pure]
  rw [hexec]
  refine ⟨g', hle, hS', ?_⟩
  have := Rep.slice (g := g') (some id) (List.replicate n' z) (List.replicate n' zv) (some ⟨w.heap.size, 0, none⟩) c' size (by simp) (by simp; omega) hcm (fun i x v h1 h2 => (rep_replicate hrz n' i x v h1 h2).mono hle)
    (fun v hv => by rw [List.eq_of_mem_replicate hv]; exact hzc) (.inr ⟨_, _, rfl, fun j u hu => by rw [Nat.zero_add, hG]; exact hu⟩) (fun id' hid => by cases hid; exact ⟨_, hrow, by simp [slen], fun _ => by simp⟩)
  simpa using this

/-! ### Bytes -/
def byteAV (b : UInt8) : AV := .lit (.int .u8 (b.toNat : Int))
def strV (l : List UInt8) : Value := .string ⟨l.toArray⟩

theorem byteAV_sz (b : UInt8) : (byteAV b).sz = 1 := rfl
theorem byteAV_cell (b : UInt8) : (byteAV b).cell = true := rfl

theorem bytes_foldl (bs : List UInt8) (acc : ByteArray) : (bs.map fun b => (b.toNat : Int)).foldl (fun r n => r.push (UInt8.ofNat n.toNat)) acc = ⟨acc.data ++ bs.toArray⟩ := by
  induction bs generalizing acc with
  | nil => simp
  | cons b r ih =>
    simp only [List.map_cons, List.foldl_cons, Int.toNat_natCast, UInt8.ofNat_toNat]
    rw [ih]
    simp [ByteArray.push]

theorem flat_lits (vs : List Value) (h : ∀ v ∈ vs, v.oneCell' = true) : flat vs = vs := by
  induction vs with
  | nil => rfl
  | cons v r ih =>
    rw [flat_cons, ih fun u hu => h u (List.mem_cons_of_mem _ hu), oneCell_cells (h v (List.mem_cons_self ..))]
    rfl

theorem rep_bytes {g : Ghost} {bs : List UInt8} {vs : List Value} (hl : vs.length = (bs.map byteAV).length) (h : ∀ (i : Nat) (x : AV) (v : Value), (bs.map byteAV)[i]? = some x → vs[i]? = some v → Rep g x v) : vs = bs.map fun b => .int .u8 (b.toNat : Int) := by
  apply List.ext_getElem?
  intro i
  by_cases hi : i < bs.length
  · have hv : i < vs.length := by rw [hl]; simpa using hi
    have := h i (byteAV bs[i]) vs[i] (by simp [hi]) (List.getElem?_eq_getElem hv)
    have e := rep_lit_inv this
    rw [List.getElem?_eq_getElem hv, e]
    simp [hi]
  · rw [List.getElem?_eq_none (by rw [hl]; simpa using hi), List.getElem?_eq_none (by simpa using hi)]

def byteTy (P : Program) (e : TypeId) : Bool :=
  match P.underlying e with
  | some (.int .u8) => true
  | _ => false

theorem holds_convert_bytes_le {src dst e : TypeId} {x : Operand} {own : Option Nat} {bs : List UInt8} (ho : o.op = .convert src dst x) (hs : sliceTy P src = some e) (he : byteTy P e = true) (hd : strTy P dst = true) (hx : AV.le (aeval s x) (.slice own (bs.map byteAV))) :
    OpHolds P o s id [] (.lit (strV bs)) [] :=
  holds_read (fun p hp => (by cases hp)) fun W0 g σ n w a hS hr _ => by
    have h1 := hx _ _ (hr x (by simp [ho, Op.operands]))
    generalize hv : a.eval x = v at h1
    have he' : P.underlying e = some (.int .u8) := by
      unfold byteTy at he
      split at he
      · assumption
      · cases he
    cases h1 with
    | slice _ _ vs A c size hvl hc hm hvr hvs hcell hown =>
      have hvb := rep_bytes hvl hvr
      have hfl : flat vs = vs := flat_lits vs (by rw [hvb]; intro v hv; obtain ⟨b, _, rfl⟩ := List.mem_map.1 hv; rfl)
      refine ⟨_, ?_, .lit _ rfl⟩
      have hconv := run_convert_bytes_string (P := P) w src dst e A (bs.map byteAV).length c (sliceTy_sound hs) he' (strTy_sound hd)
      simp only [execOp, ho, hv, Sem.run_bind, hconv]
      rcases hcell with h0 | ⟨b, off, rfl, hG⟩
      · have hb0 : bs = [] := by simpa using h0
        subst hb0
        cases A <;> simp [Conv.bytesToString, loadCells, loadCellsFrom, strV] <;> rfl
      · have hload : (loadCells ⟨b, off, none⟩ (bs.map byteAV).length).run P w = .ok ((bs.map fun b => (b.toNat : Int)).map (Value.int .u8)).toArray w := by
          have := run_loadCells_list (P := P) w ⟨b, off, none⟩ (flat vs) (fun j u hu => by rw [Addr.add_lit]; exact hS.imm _ _ _ (hG j u hu))
          rw [hfl] at this
          rw [← hvl, this, hvb]
          simp
        rw [run_bytesToString w ⟨b, off, none⟩ _ c _ hload, bytes_foldl]
        simp [strV]
theorem holds_convert_bytes {src dst e : TypeId} {x : Operand} {own : Option Nat} {bs : List UInt8} (ho : o.op = .convert src dst x) (hs : sliceTy P src = some e) (he : byteTy P e = true) (hd : strTy P dst = true) (hx : aeval s x = .slice own (bs.map byteAV)) :
    OpHolds P o s id [] (.lit (strV bs)) [] := holds_convert_bytes_le ho hs he hd (by rw [hx]; exact AV.le_refl _)
end
end Go.Ab
