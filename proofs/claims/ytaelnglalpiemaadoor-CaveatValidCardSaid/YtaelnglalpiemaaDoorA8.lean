/- Slicing, append, len, min, max, make. -/
import Derived.Test.YtaelnglalpiemaaDoorA7
namespace Go.Ab
open Go.RowKit

/-- A slice's bound: an operand that is an integer from 0 on, or none. -/
def bnd (s : Slots) (d : Nat) : Option Operand → Option Nat
  | none => some d
  | some x => match aeval s x with
    | .lit (.int _ n) => if 0 ≤ n then some n.toNat else none
    | _ => none

theorem flat_drop (vs : List Value) (size : Nat) (hs : ∀ v ∈ vs, v.cells.size = size) (l : Nat) : flat (vs.drop l) = (flat vs).drop (l * size) := by
  induction vs generalizing l with
  | nil => simp [flat]
  | cons v r ih =>
    cases l with
    | zero => simp
    | succ l =>
      have hv : v.cells.toList.length = size := by simpa using hs v (List.mem_cons_self ..)
      have e : (l + 1) * size = v.cells.toList.length + l * size := by rw [hv, Nat.add_mul]; omega
      rw [List.drop_succ_cons, ih (fun u hu => hs u (List.mem_cons_of_mem _ hu)), flat_cons, e, List.drop_length_add_append]

theorem flat_take (vs : List Value) (size : Nat) (hs : ∀ v ∈ vs, v.cells.size = size) (h : Nat) : flat (vs.take h) = (flat vs).take (h * size) := by
  induction vs generalizing h with
  | nil => simp [flat]
  | cons v r ih =>
    cases h with
    | zero => simp [flat]
    | succ h =>
      have hv : v.cells.toList.length = size := by simpa using hs v (List.mem_cons_self ..)
      have e : (h + 1) * size = v.cells.toList.length + h * size := by rw [hv, Nat.add_mul]; omega
      rw [List.take_succ_cons, flat_cons, ih (fun u hu => hs u (List.mem_cons_of_mem _ hu)), flat_cons, e, List.take_length_add_append]

section
variable {P : Program} {o : Oper} {s : Slots} {id : Nat}

theorem run_bnd {a : Act} {g : Ghost} {d : Nat} {lo : Option Operand} {l : Nat} (h : bnd s d lo = some l) (hr : ∀ x, lo = some x → Rep g (aeval s x) (a.eval x)) :
    (lo = none ∧ l = d) ∨ ∃ x k n, lo = some x ∧ a.eval x = .int k n ∧ 0 ≤ n ∧ n.toNat = l := by
  cases lo with
  | none => simp [bnd] at h; exact .inl ⟨rfl, h.symm⟩
  | some x =>
    have hx := hr x rfl
    simp only [bnd] at h
    split at h
    · rename_i k n he
      rw [he] at hx
      split at h <;> cases h
      rename_i h0
      exact .inr ⟨x, k, n, rfl, rep_lit_inv hx, h0, rfl⟩
    · cases h

theorem run_bounds {a : Act} {g : Ghost} {len cap l h : Nat} {lo hi : Option Operand} (hl : bnd s 0 lo = some l) (hh : bnd s len hi = some h) (hr : ∀ x, lo = some x → Rep g (aeval s x) (a.eval x)) (hr' : ∀ x, hi = some x → Rep g (aeval s x) (a.eval x))
    (h1 : l ≤ h) (h2 : h ≤ cap) (isS : Bool) (w : World) : (Instr.sliceBounds isS len cap (lo.map a.eval) (hi.map a.eval) none).run P w = .ok (l, h, cap) w := by
  rcases run_bnd hh hr' with ⟨rfl, rfl⟩ | ⟨x, k, n, rfl, he, h0, rfl⟩ <;> rcases run_bnd hl hr with ⟨rfl, rfl⟩ | ⟨x', k', n', rfl, he', h0', rfl⟩
  · simp [Instr.sliceBounds]
  · simp [Instr.sliceBounds, he', run_sliceBound w k' n' h _ h0' (by omega)]
  · simp [Instr.sliceBounds, he, run_sliceBound w k n cap _ h0 (by omega)]
  · simp [Instr.sliceBounds, he, he', run_sliceBound w k n cap _ h0 (by omega), run_sliceBound w k' n' n.toNat _ h0' (by omega)]

theorem Rep.sub {g : Ghost} {xs : List AV} {vs : List Value} {A : Option Addr} {c size l h : Nat} (hl : vs.length = xs.length) (hc : xs.length ≤ c) (hm : c ≤ maxLen) (hr : ∀ (i : Nat) (x : AV) (v : Value), xs[i]? = some x → vs[i]? = some v → Rep g x v)
    (hs : ∀ v ∈ vs, v.cells.size = size) (hcell : xs.length = 0 ∨ ∃ b o, A = some ⟨b, o, none⟩ ∧ ∀ (j : Nat) (u : Value), (flat vs)[j]? = some u → g.G b (o + j) = some u) (h1 : l ≤ h) (h2 : h ≤ xs.length) :
    Rep g (.slice none ((xs.take h).drop l)) (.slice (if c = l then A else A.map (·.add (l * size))) (h - l) (c - l)) := by
  have e : ((xs.take h).drop l).length = h - l := by simp; omega
  rw [← e]
  refine .slice none _ ((vs.take h).drop l) _ _ size (by simp [hl]) (by rw [e]; omega) (by omega) (fun i x v hx hv => ?_) (fun v hv => hs v (List.mem_of_mem_take (List.mem_of_mem_drop hv))) ?_ (fun id hid => by cases hid)
  · rw [List.getElem?_drop, List.getElem?_take] at hx hv
    split at hx
    · rename_i hlt; rw [if_pos hlt] at hv; exact hr _ x v hx hv
    · cases hx
  · rw [e]
    by_cases h0 : h - l = 0
    · exact .inl h0
    · rcases hcell with h' | ⟨b, o, rfl, hG⟩
      · omega
      · refine .inr ⟨b, o + l * size, by rw [if_neg (by omega)]; simp [Addr.add_lit], fun j u hu => ?_⟩
        rw [flat_drop _ size (fun v hv => hs v (List.mem_of_mem_take hv)), flat_take _ size hs, List.getElem?_drop, List.getElem?_take] at hu
        split at hu
        · rw [Nat.add_assoc]; exact hG _ _ hu
        · cases hu

theorem holds_slice_slice {t e : TypeId} {x : Operand} {lo hi : Option Operand} {own : Option Nat} {xs : List AV} {l h size : Nat} (ho : o.op = .slice t x lo hi none) (ht : sliceTy P t = some e) (hs : sizeIs P e size = true) (hx : AV.le (aeval s x) (.slice own xs))
    (hl : bnd s 0 lo = some l) (hh : bnd s xs.length hi = some h) (h1 : l ≤ h) (h2 : h ≤ xs.length) (hsz : xs.all (fun y => y.sz == size) = true) : OpHolds P o s id [] (.slice none ((xs.take h).drop l)) [] :=
  holds_pure fun g w a hr => by
    have h3 := hx _ _ (hr x (by simp [ho, Op.operands]))
    have hlo : ∀ x, lo = some x → Rep g (aeval s x) (a.eval x) := fun x hx => hr x (by simp [ho, Op.operands, hx])
    have hhi : ∀ x, hi = some x → Rep g (aeval s x) (a.eval x) := fun x hx => hr x (by simp [ho, Op.operands, hx])
    generalize hv : a.eval x = v at h3
    obtain ⟨ie, hie, hsi⟩ := sizeIs_sound hs
    cases h3 with
    | slice _ _ vs A c size' hvl hc hm hvr hvs hcell hown =>
      have hvs' := sizes_of hvl hvr hsz
      refine ⟨_, ?_, Rep.sub hvl hc hm hvr hvs' hcell h1 h2⟩
      have hb := run_bounds (P := P) hl hh hlo hhi h1 (by omega : h ≤ c) true w
      simp only [execOp, ho, Sem.run_bind, Instr.sliceAt, run_underlying (sliceTy_sound ht), Result.andThen_ok, hv, Instr.slice, Option.map_none, hb, sizeOf, typeInfo, run_program, hie, Sem.run_pure, hsi]

theorem holds_slice_nils {t e : TypeId} {x : Operand} {lo hi : Option Operand} {size : Nat} (ho : o.op = .slice t x lo hi none) (ht : sliceTy P t = some e) (hs : sizeIs P e size = true) (hx : aeval s x = .nils)
    (hl : bnd s 0 lo = some 0) (hh : bnd s 0 hi = some 0) : OpHolds P o s id [] .nils [] :=
  holds_pure fun g w a hr => by
    have h3 := hr x (by simp [ho, Op.operands])
    have hlo : ∀ x, lo = some x → Rep g (aeval s x) (a.eval x) := fun x hx => hr x (by simp [ho, Op.operands, hx])
    have hhi : ∀ x, hi = some x → Rep g (aeval s x) (a.eval x) := fun x hx => hr x (by simp [ho, Op.operands, hx])
    rw [hx] at h3
    generalize hv : a.eval x = v at h3
    obtain ⟨ie, hie, hsi⟩ := sizeIs_sound hs
    cases h3 with
    | nils =>
      refine ⟨_, ?_, .nils⟩
      have hb := run_bounds (P := P) hl hh hlo hhi (Nat.le_refl 0) (Nat.le_refl 0) true w
      simp only [execOp, ho, Sem.run_bind, Instr.sliceAt, run_underlying (sliceTy_sound ht), Result.andThen_ok, hv, Instr.slice, Option.map_none, hb, sizeOf, typeInfo, run_program, hie, Sem.run_pure]
      rfl

theorem holds_slice_str {t : TypeId} {x : Operand} {lo hi : Option Operand} {b : ByteArray} {l h : Nat} (ho : o.op = .slice t x lo hi none) (ht : strTy P t = true) (hx : aeval s x = .lit (.string b))
    (hl : bnd s 0 lo = some l) (hh : bnd s b.size hi = some h) (h1 : l ≤ h) (h2 : h ≤ b.size) : OpHolds P o s id [] (.lit (.string (b.extract l h))) [] :=
  holds_pure fun g w a hr => by
    have h3 := hr x (by simp [ho, Op.operands])
    have hlo : ∀ x, lo = some x → Rep g (aeval s x) (a.eval x) := fun x hx => hr x (by simp [ho, Op.operands, hx])
    have hhi : ∀ x, hi = some x → Rep g (aeval s x) (a.eval x) := fun x hx => hr x (by simp [ho, Op.operands, hx])
    rw [hx] at h3
    have e1 := rep_lit_inv h3
    refine ⟨_, ?_, .lit _ rfl⟩
    have hb := run_bounds (P := P) hl hh hlo hhi h1 h2 false w
    simp only [execOp, ho, Sem.run_bind, Instr.sliceAt, run_underlying (strTy_sound ht), Result.andThen_ok, e1, Instr.slice, Option.map_none, hb, Option.isSome_none, Bool.false_eq_true, if_false]
    rfl

/-! ### Builtins -/
theorem execOp_builtin {a : Act} {b : Builtin} {args : Array Operand} {ts : Array TypeId} (ho : o.op = .call { callee := .builtin b, args := args, argTypes := ts }) (w : World) :
    ∃ cs, (execOp a.eval o).run P w = (builtin b ts o.type cs (args.map a.eval)).run P w := by
  refine ⟨args.map fun | .const _ => true | _ => false, ?_⟩
  simp only [execOp, ho, resolve, invoke, Sem.run_bind, Sem.run_pure, Result.andThen_ok]
  rfl

theorem holds_len_slice {t e : TypeId} {x : Operand} {own : Option Nat} {xs : List AV} (ho : o.op = .call { callee := .builtin .len, args := #[x], argTypes := #[t] }) (ht : sliceTy P t = some e) (hx : AV.le (aeval s x) (.slice own xs)) :
    OpHolds P o s id [] (.lit (.int .i64 xs.length)) [] :=
  holds_pure fun g w a hr => by
    have h3 := hx _ _ (hr x (by simp [ho, Op.operands, Call.operands]))
    generalize hv : a.eval x = v at h3
    cases h3 with
    | slice _ _ vs A c size' hvl hc hm hvr hvs hcell hown =>
      obtain ⟨cs, he⟩ := execOp_builtin (P := P) (a := a) ho w
      refine ⟨_, ?_, .lit _ rfl⟩
      rw [he]
      simp [builtin, Builtin.len_, run_underlying (sliceTy_sound ht), hv, goInt]

theorem holds_len_nils {t e : TypeId} {x : Operand} (ho : o.op = .call { callee := .builtin .len, args := #[x], argTypes := #[t] }) (ht : sliceTy P t = some e) (hx : aeval s x = .nils) :
    OpHolds P o s id [] (.lit (.int .i64 0)) [] :=
  holds_pure fun g w a hr => by
    have h3 := hr x (by simp [ho, Op.operands, Call.operands])
    rw [hx] at h3
    generalize hv : a.eval x = v at h3
    cases h3 with
    | nils =>
      obtain ⟨cs, he⟩ := execOp_builtin (P := P) (a := a) ho w
      refine ⟨_, ?_, .lit _ rfl⟩
      rw [he]
      simp [builtin, Builtin.len_, run_underlying (sliceTy_sound ht), hv, goInt]

theorem holds_len_str {t : TypeId} {x : Operand} {b : ByteArray} (ho : o.op = .call { callee := .builtin .len, args := #[x], argTypes := #[t] }) (ht : strTy P t = true) (hx : aeval s x = .lit (.string b)) :
    OpHolds P o s id [] (.lit (.int .i64 b.size)) [] :=
  holds_pure fun g w a hr => by
    have h3 := hr x (by simp [ho, Op.operands, Call.operands])
    rw [hx] at h3
    have e1 := rep_lit_inv h3
    obtain ⟨cs, he⟩ := execOp_builtin (P := P) (a := a) ho w
    refine ⟨_, ?_, .lit _ rfl⟩
    rw [he]
    simp only [builtin, List.map_toArray, List.map_cons, List.map_nil, e1]
    simp [Builtin.len_, run_underlying (strTy_sound ht), goInt]

theorem holds_min {ts : Array TypeId} {x y : Operand} {k k' : IntKind} {m n : Int} (ho : o.op = .call { callee := .builtin .min, args := #[x, y], argTypes := ts }) (hx : aeval s x = .lit (.int k m)) (hy : aeval s y = .lit (.int k' n)) :
    OpHolds P o s id [] (.lit (.int k (if n < m then n else m))) [] :=
  holds_pure fun g w a hr => by
    have h1 := hr x (by simp [ho, Op.operands, Call.operands])
    have h2 := hr y (by simp [ho, Op.operands, Call.operands])
    rw [hx] at h1
    rw [hy] at h2
    have e1 := rep_lit_inv h1
    have e2 := rep_lit_inv h2
    obtain ⟨cs, he⟩ := execOp_builtin (P := P) (a := a) ho w
    refine ⟨_, ?_, .lit _ rfl⟩
    rw [he]
    simp only [builtin, List.map_toArray, List.map_cons, List.map_nil, e1, e2]
    simp [Builtin.min_, Builtin.min2]

theorem holds_max {ts : Array TypeId} {x y : Operand} {k k' : IntKind} {m n : Int} (ho : o.op = .call { callee := .builtin .max, args := #[x, y], argTypes := ts }) (hx : aeval s x = .lit (.int k m)) (hy : aeval s y = .lit (.int k' n)) :
    OpHolds P o s id [] (.lit (.int k (if n > m then n else m))) [] :=
  holds_pure fun g w a hr => by
    have h1 := hr x (by simp [ho, Op.operands, Call.operands])
    have h2 := hr y (by simp [ho, Op.operands, Call.operands])
    rw [hx] at h1
    rw [hy] at h2
    have e1 := rep_lit_inv h1
    have e2 := rep_lit_inv h2
    obtain ⟨cs, he⟩ := execOp_builtin (P := P) (a := a) ho w
    refine ⟨_, ?_, .lit _ rfl⟩
    rw [he]
    simp only [builtin, List.map_toArray, List.map_cons, List.map_nil, e1, e2]
    simp [Builtin.max_, Builtin.max2]

/-! ### append -/
theorem run_storeCells_fz (g o : Nat) (t : TypeId) (fz : Nat × Nat) : ∀ (vs : List Value) (i : Nat) (cur : Array Value) (w : World), w.heap[g]? = some (.cells cur t fz) → noFz fz cur.size → o + i + vs.length ≤ cur.size → (∀ v ∈ vs, v.oneCell' = true) →
    (storeCells ⟨g, o, none⟩ vs i).run P w = .ok () (w.setRow g (cur.toList.take (o + i) ++ vs ++ cur.toList.drop (o + i + vs.length)).toArray)
  | [], i, cur, w, hg, _, _, _ => by
    simp only [storeCells, List.append_nil, List.length_nil, Nat.add_zero, List.take_append_drop, Array.toArray_toList]
    rw [setRow_self w g cur t fz hg]
    rfl
  | v :: rest, i, cur, w, hg, hz, hl, h1 => by
    have hi : o + i < cur.size := by simp at hl; omega
    have hadd : (⟨g, o, none⟩ : Addr).add i = ⟨g, o + i, none⟩ := by unfold Addr.add; split <;> simp_all
    have hcell : w.cell? ⟨g, o + i, none⟩ = some cur[o + i] := by simp [World.cell?, hg, hi]
    have hfro : w.frozen? ⟨g, o + i, none⟩ = false := by
      have := hz.at (o + i) hi
      simp only [World.frozen?, hg]
      exact this
    have hst : (store ((⟨g, o, none⟩ : Addr).add i) v).run P w = .ok () (w.setRow g (cur.setIfInBounds (o + i) v)) := by
      rw [hadd, run_store P w _ v _ (h1 v (by simp)), hcell]
      simp [hfro, setCell_eq_setRow w g (o + i) cur t fz v hg]
    have ih := run_storeCells_fz g o t fz rest (i + 1) (cur.setIfInBounds (o + i) v) (w.setRow g (cur.setIfInBounds (o + i) v)) (setRow_heap w g cur _ t _ hg) (by simpa using hz) (by simp at hl ⊢; omega) (fun x hx => h1 x (by simp [hx]))
    simp only [storeCells, Sem.run_bind, hst, Result.andThen_ok, ih, setRow_setRow]
    congr 3
    have e := list_seg_step cur.toList (o + i) v rest (by simp at hl ⊢; omega)
    simpa [Array.toList_setIfInBounds, Nat.add_assoc] using e

theorem run_append_roomF (w : World) (t ty e : TypeId) (i : TypeInfo) (ht : P.underlying t = some (.slice e)) (hi : P.info? e = some i)
    (g sLen sCap : Nat) (cur : Array Value) (fz : Nat × Nat) (hg : w.heap[g]? = some (.cells cur e fz)) (hz : noFz fz cur.size)
    (a : Addr) (m c : Nat) (news : List Value) (hl : news.length = m * i.size) (hnews : ∀ (j : Nat) (u : Value), news[j]? = some u → w.cell? (a.add j) = some u) (h1 : ∀ u ∈ news, u.oneCell' = true)
    (hroom : sLen + m ≤ sCap) (hfit : sLen * i.size + news.length ≤ cur.size) :
    (Builtin.append_ #[t, t] ty #[.slice (some ⟨g, 0, none⟩) sLen sCap, .slice (some a) m c]).run P w =
      .ok (.slice (some ⟨g, 0, none⟩) (sLen + m) sCap) (w.setRow g (cur.toList.take (sLen * i.size) ++ news ++ cur.toList.drop (sLen * i.size + news.length)).toArray) := by
  have hf := run_firstCells_some (P := P) w i.size m a m c news hl hnews
  have hst := run_storeCells_fz (P := P) g (sLen * i.size) e fz news 0 cur w hg hz (by simpa using hfit) h1
  simp only [Nat.add_zero] at hst
  simp [Builtin.append_, run_underlying ht, sizeOf, typeInfo, hi, Builtin.lenOf, hroom, hf, Addr.add_lit, hst]

theorem run_append_row {w : World} {base : Nat} {t ty e : TypeId} {i : TypeInfo} {z : Value} (ht : P.underlying t = some (.slice e)) (hi : P.info? e = some i) (hz : i.zero = some z) (hzs : z.cells.size = i.size)
    {v : Value} {n : Nat} {xs : List Value} (hown : ownsR w base e i.size v n xs) {a : Addr} {m c : Nat} {news : List Value} (hl : news.length = m * i.size) (hnews : ∀ (j : Nat) (u : Value), news[j]? = some u → w.cell? (a.add j) = some u) (h1 : ∀ u ∈ news, u.oneCell' = true)
    (hm : 0 < m) (hbytes : (n + m) * i.bytes ≤ 140737488355328) (h63 : n + m ≤ maxLen) (hbase : base ≤ w.heap.size) :
    ∃ v' w', (Builtin.append_ #[t, t] ty #[v, .slice (some a) m c]).run P w = .ok v' w' ∧ ownsR w' base e i.size v' (n + m) (xs ++ news) ∧ slen v' = n + m ∧ w'.os = w.os ∧ w'.tape = w.tape ∧ w'.output = w.output ∧ w.heap.size ≤ w'.heap.size ∧
      ((0 < m ∧ v'.ownBlock = v.ownBlock ∧ ∀ j, v.ownBlock ≠ some j → j < w.heap.size → w'.heap[j]? = w.heap[j]?) ∨ (0 < m ∧ v'.ownBlock = some w.heap.size ∧ ∀ j, j < w.heap.size → w'.heap[j]? = w.heap[j]?)) := by
  have hsmall : n + m ≤ 9223372036854775807 := by simp only [maxLen] at h63; omega
  have hlen : (xs ++ news).length = (n + m) * i.size := by rw [List.length_append, hown.1, hl, Nat.add_mul]
  have grown : ∀ (old : Nat), old < n + m →
      ownsR (w.drew.alloc (.cells (xs.toArray ++ news.toArray ++ Builtin.zeroCells z.cells (grownCap w (n + m) old e - (n + m))) e)) base e i.size
        (.slice (some ⟨w.heap.size, 0, none⟩) (n + m) (grownCap w (n + m) old e)) (n + m) (xs ++ news) := by
    intro old _
    have hge := grownCap_ge w (n + m) old e
    have hcm : grownCap w (n + m) old e ≤ maxLen := grownCap_le_maxLen w (n + m) old e h63
    refine ⟨hlen, .inr ⟨w.heap.size, _, _, (0, 0), rfl, hbase, heap_alloc_new w.drew _, noFz_zero _, hge, hcm, ?_, ?_⟩⟩
    · simp only [Array.size_append, List.size_toArray, size_zeroCells, hzs, hown.1, hl, ← Nat.add_mul]
      congr 1
      omega
    · simp only [Array.toList_append, List.append_assoc]
      rw [← List.append_assoc, ← hlen]
      exact List.take_left
  have oldkept : ∀ o' j, j < w.heap.size → (w.drew.alloc o').heap[j]? = w.heap[j]? := fun o' j hj => heap_alloc_old w.drew o' j hj
  rcases hown.2 with ⟨rfl, rfl⟩ | ⟨g, cap, cur, fz, rfl, hbg, hg, hfz, hnc, hcm, hcs, htake⟩
  · have hx : xs = [] := List.eq_nil_of_length_eq_zero (by simpa using hown.1)
    subst hx
    have hr := run_append_nil (P := P) w t ty e i z ht hi hz a m c news hl hnews hm (by omega) (by have hb := hbytes; simp only [Nat.zero_add] at hb; omega)
    have hgr := grown 0 (by omega)
    simp only [Nat.zero_add, List.nil_append, Array.empty_append] at hgr ⊢
    exact ⟨_, _, hr, hgr, rfl, rfl, rfl, rfl, by simp, .inr ⟨hm, rfl, oldkept _⟩⟩
  · by_cases hroom : n + m ≤ cap
    · have hfit : n * i.size + news.length ≤ cur.size := by rw [hl, hcs, ← Nat.add_mul]; exact Nat.mul_le_mul_right _ hroom
      have hr := run_append_roomF (P := P) w t ty e i ht hi g n cap cur fz hg hfz a m c news hl hnews h1 hroom hfit
      have hcz : (cur.toList.take (n * i.size) ++ news ++ cur.toList.drop (n * i.size + news.length)).toArray.size = cur.size := by
        simp only [List.size_toArray, List.length_append, List.length_take, List.length_drop, Array.length_toList]
        omega
      refine ⟨_, _, hr, ⟨hlen, .inr ⟨g, cap, _, fz, rfl, hbg, setRow_heap w g cur _ e _ hg, by rw [hcz]; exact hfz, hroom, hcm, ?_, ?_⟩⟩, rfl, rfl, rfl, rfl, by simp [World.setRow], .inl ⟨hm, rfl, fun k hk _ => setRow_other w g k _ (fun e => hk (by simp [Value.ownBlock, e]))⟩⟩
      · simp only [List.size_toArray, List.length_append, List.length_take, List.length_drop, Array.length_toList]
        omega
      · rw [htake, ← hlen]
        exact List.take_left
    · have holds : ∀ j u, xs[j]? = some u → w.cell? ((⟨g, 0, none⟩ : Addr).add j) = some u := fun j u hu => by rw [Addr.add_lit, Nat.zero_add]; exact hown.cells (g := g) rfl j u hu
      have hr := run_append_grow (P := P) w t ty e i z ht hi hz ⟨g, 0, none⟩ n cap xs hown.1 holds a m c news hl hnews (by omega) (by omega) (growslice_fits (by omega) hbytes)
      exact ⟨_, _, hr, grown cap (by omega), rfl, rfl, rfl, rfl, by simp, .inr ⟨hm, rfl, oldkept _⟩⟩

/-- A slice without spare places: what is appended goes, with all that is there, into a new block. -/
theorem run_append_full {w : World} {base : Nat} {t ty e : TypeId} {i : TypeInfo} {z : Value} (ht : P.underlying t = some (.slice e)) (hi : P.info? e = some i) (hz : i.zero = some z) (hzs : z.cells.size = i.size)
    {A : Addr} {n : Nat} {xs : List Value} (hxl : xs.length = n * i.size) (hxc : ∀ (j : Nat) (u : Value), xs[j]? = some u → w.cell? (A.add j) = some u) {a : Addr} {m c : Nat} {news : List Value} (hl : news.length = m * i.size) (hnews : ∀ (j : Nat) (u : Value), news[j]? = some u → w.cell? (a.add j) = some u)
    (hm : 0 < m) (hbytes : (n + m) * i.bytes ≤ 140737488355328) (h63 : n + m ≤ maxLen) (hbase : base ≤ w.heap.size) :
    ∃ v' w', (Builtin.append_ #[t, t] ty #[.slice (some A) n n, .slice (some a) m c]).run P w = .ok v' w' ∧ ownsR w' base e i.size v' (n + m) (xs ++ news) ∧ slen v' = n + m ∧ w'.os = w.os ∧ w'.tape = w.tape ∧ w'.output = w.output ∧ w.heap.size ≤ w'.heap.size ∧
      (0 < m ∧ v'.ownBlock = some w.heap.size ∧ ∀ j, j < w.heap.size → w'.heap[j]? = w.heap[j]?) := by
  have hsmall : n + m ≤ 9223372036854775807 := by simp only [maxLen] at h63; omega
  have hlen : (xs ++ news).length = (n + m) * i.size := by rw [List.length_append, hxl, hl, Nat.add_mul]
  have hge := grownCap_ge w (n + m) n e
  have hcm : grownCap w (n + m) n e ≤ maxLen := grownCap_le_maxLen w (n + m) n e h63
  have hr := run_append_grow (P := P) w t ty e i z ht hi hz A n n xs hxl hxc a m c news hl hnews (by omega) (by omega) (growslice_fits (by omega) hbytes)
  refine ⟨_, _, hr, ⟨hlen, .inr ⟨w.heap.size, _, _, (0, 0), rfl, hbase, heap_alloc_new w.drew _, noFz_zero _, hge, hcm, ?_, ?_⟩⟩, rfl, rfl, rfl, rfl, by simp, hm, rfl, fun j hj => heap_alloc_old w.drew _ j hj⟩
  · simp only [Array.size_append, List.size_toArray, size_zeroCells, hzs, hxl, hl, ← Nat.add_mul]
    congr 1
    omega
  · simp only [Array.toList_append, List.append_assoc]
    rw [← List.append_assoc, ← hlen]
    exact List.take_left

theorem run_append_none' {w : World} {t ty e : TypeId} {i : TypeInfo} (ht : P.underlying t = some (.slice e)) (hi : P.info? e = some i)
    {B : Option Addr} {n cap : Nat} (hnc : n ≤ cap) {A : Option Addr} {c : Nat} : (Builtin.append_ #[t, t] ty #[.slice B n cap, .slice A 0 c]).run P w = .ok (.slice B n cap) w := by
  cases A <;> cases B <;> simp [Builtin.append_, run_underlying ht, sizeOf, typeInfo, hi, Builtin.lenOf, Builtin.firstCells, hnc, storeCells, loadCells, loadCellsFrom]

theorem run_append_none {w : World} {base : Nat} {t ty e : TypeId} {i : TypeInfo} (ht : P.underlying t = some (.slice e)) (hi : P.info? e = some i)
    {v : Value} {n : Nat} {xs : List Value} (hown : ownsR w base e i.size v n xs) {A : Option Addr} {c : Nat} : (Builtin.append_ #[t, t] ty #[v, .slice A 0 c]).run P w = .ok v w := by
  rcases hown.2 with ⟨rfl, rfl⟩ | ⟨g, cap, cur, fz, rfl, _, _, _, hnc, _⟩
  · cases A <;> simp [Builtin.append_, run_underlying ht, sizeOf, typeInfo, hi, Builtin.lenOf, Builtin.firstCells, loadCells, loadCellsFrom]
  · cases A <;> simp [Builtin.append_, run_underlying ht, sizeOf, typeInfo, hi, Builtin.lenOf, Builtin.firstCells, hnc, storeCells, loadCells, loadCellsFrom]

/-- A slice without spare places, as a row. -/
theorem Sim.ofClip {W0 : World} {g : Ghost} {σ : Nat → Ent} {n : Nat} {w : World} (hS : Sim W0 g σ n w) {k : Nat} {e : TypeId} {size : Nat} {xs : List AV} {A : Option Addr} {m : Nat} (hk : σ k = .none) (hn : k < n) (hr : Rep g (.slice none xs) (.slice A m m)) (hsx : xs.all (fun x => x.sz == size) = true) :
    ∃ g', g.le g' ∧ Sim W0 g' (upd σ k (.row e size xs.length)) n w ∧ g'.row k = some (.slice A m m) ∧ Rep g' (.slice (some k) xs) (.slice A m m) := by
  cases hr with
  | slice _ _ vs _ _ size' hvl hc hm hvr hvs hcell hown =>
    have hvs' := sizes_of hvl hvr hsx
    have done : ∀ g', g.le g' → g'.row k = some (.slice A xs.length xs.length) → Rep g' (.slice (some k) xs) (.slice A xs.length xs.length) := fun g' hle hrow =>
      .slice (some k) xs vs A _ size hvl hc hm (fun i x v h1 h2 => (hvr i x v h1 h2).mono hle) hvs' (hcell.imp (fun h => h) (fun ⟨b, o, h1, h2⟩ => ⟨b, o, h1, fun j u hu => hle.G _ _ _ (h2 j u hu)⟩)) (fun id hid => by cases hid; exact ⟨_, hrow, by simp [slen], fun _ => rfl⟩)
    rcases hcell with h0 | ⟨b, o, rfl, hcell⟩
    · cases A with
      | none =>
        obtain ⟨g', h1, h2, h3, _⟩ := hS.addRow (k := k) (e := e) (size := size) (m := 0) (u := .slice none 0 0) (cells := []) hk hn (ownsR_nil w _ e size) rfl (fun b hb => by simp [Value.ownBlock] at hb) (fun b hb => by simp [Value.ownBlock] at hb)
        rw [h0] at *
        exact ⟨g', h1, h2, h3, by rw [h0] at done; exact done g' h1 h3⟩
      | some ad =>
        obtain ⟨g', h1, h2, h3⟩ := hS.addClip (k := k) (e := e) (size := size) (m := xs.length) (A := ad) (cells := []) hk hn (by simp [h0]) hm (fun j v h => by simp at h)
        exact ⟨g', h1, h2, h3, done g' h1 h3⟩
    · obtain ⟨g', h1, h2, h3⟩ := hS.addClip (k := k) (e := e) (size := size) (m := xs.length) (A := ⟨b, o, none⟩) (cells := flat vs) hk hn (by rw [flat_length vs size hvs', hvl]) hm (fun j v hv => ⟨rfl, hcell j v hv⟩)
      exact ⟨g', h1, h2, h3, done g' h1 h3⟩

def AV.elems : AV → Option (List AV)
  | .nils => some []
  | .slice _ xs => some xs
  | .clip xs => some xs
  | .lit (.slice _ 0 _) => some []
  | _ => none

def bytesIs (P : Program) (e : TypeId) (bytes : Nat) : Bool :=
  match P.info? e with
  | some i => i.bytes == bytes
  | _ => false

/-- What a slice's elements are, as values and cells. -/
theorem elems_vals {g : Ghost} {size : Nat} {Y : AV} {y : Value} {ys : List AV} (hY : Y.elems = some ys) (hry : Rep g Y y) (hsy : ys.all (fun x => x.sz == size) = true) :
    ∃ A m c, ∃ us : List Value, y = .slice A m c ∧ m = ys.length ∧ us.length = ys.length ∧ (∀ (i : Nat) (x : AV) (v : Value), ys[i]? = some x → us[i]? = some v → Rep g x v) ∧ (∀ v ∈ us, v.cells.size = size) ∧
      (ys.length = 0 ∨ ∃ b o, A = some ⟨b, o, none⟩ ∧ ∀ (j : Nat) (u : Value), (flat us)[j]? = some u → g.G b (o + j) = some u) := by
  cases hry <;> simp [AV.elems] at hY
  case lit hv =>
    split at hY
    · rename_i h; simp at h
    · rename_i h; simp at h
    · rename_i h; simp at h
    · rename_i A c h
      simp at h hY
      subst h; subst hY
      exact ⟨A, 0, c, [], rfl, rfl, rfl, fun i x v h _ => by simp at h, fun v hv => by simp at hv, .inl rfl⟩
    · cases hY
  case nils =>
    subst hY
    exact ⟨none, 0, 0, [], rfl, rfl, rfl, fun i x v h _ => by simp at h, fun v hv => by simp at hv, .inl rfl⟩
  case clip xs' A n hcl =>
    subst hY
    cases hcl with
    | slice _ _ us _ _ size' hvl hc hm hvr hvs hcell hown' =>
      exact ⟨A, _, _, us, rfl, rfl, hvl, hvr, sizes_of hvl hvr hsy, hcell⟩
  case slice own xs' us A c size' hvl hc hm hvr hvs hcell hown' =>
    subst hY
    exact ⟨A, _, c, us, rfl, rfl, hvl, hvr, sizes_of hvl hvr hsy, hcell⟩

/-- The heart: a row of one's own grows by elements, however they are handed over. -/
theorem append_gen {e : TypeId} {size k : Nat} {z : AV} (hs : sizeIs P e size = true) (hz : ztree P e = some z) (hzs : z.sz = size)
    {W0 : World} {g : Ghost} {σ : Nat → Ent} {n : Nat} {w : World} {r : Nat} {u : Value} {xs ys : List AV} {us : List Value} {R : Value → World → Prop} (hS : Sim W0 g σ n w) (hx : σ r = .row e size k) (hu : g.row r = some u) (hk : xs.length = k)
    (hru : xs.length = 0 ∨ Rep g (.slice (some r) xs) u) (hsx : xs.all (fun x => x.sz == size) = true)
    (hul : us.length = ys.length) (hur : ∀ (i : Nat) (x : AV) (v : Value), ys[i]? = some x → us[i]? = some v → Rep g x v) (hus : ∀ v ∈ us, v.cells.size = size)
    (h0 : ys.length = 0 → (∃ A c, u = .slice A k c ∧ k ≤ c) → R u w)
    (hown : ∀ (i : TypeInfo) (zv : Value) (cells : List Value), P.info? e = some i → i.zero = some zv → i.size = size → zv.cells.size = i.size → Rep g z zv → ownsR w W0.heap.size e i.size u k cells → 0 < ys.length → ∃ u' w', R u' w' ∧ ownsR w' W0.heap.size e i.size u' (k + ys.length) (cells ++ flat us) ∧ slen u' = k + ys.length ∧ w'.os = w.os ∧ w'.tape = w.tape ∧ w'.output = w.output ∧ w.heap.size ≤ w'.heap.size ∧
      ((0 < ys.length ∧ u'.ownBlock = u.ownBlock ∧ ∀ j, u.ownBlock ≠ some j → j < w.heap.size → w'.heap[j]? = w.heap[j]?) ∨ (0 < ys.length ∧ u'.ownBlock = some w.heap.size ∧ ∀ j, j < w.heap.size → w'.heap[j]? = w.heap[j]?)))
    (hfull : ∀ (i : TypeInfo) (zv : Value) (A : Addr) (cells : List Value), P.info? e = some i → i.zero = some zv → i.size = size → zv.cells.size = i.size → Rep g z zv → u = .slice (some A) k k → cells.length = k * i.size → (∀ (j : Nat) (v : Value), cells[j]? = some v → w.cell? (A.add j) = some v) → 0 < ys.length → ∃ u' w', R u' w' ∧ ownsR w' W0.heap.size e i.size u' (k + ys.length) (cells ++ flat us) ∧ slen u' = k + ys.length ∧ w'.os = w.os ∧ w'.tape = w.tape ∧ w'.output = w.output ∧ w.heap.size ≤ w'.heap.size ∧
      (0 < ys.length ∧ u'.ownBlock = some w.heap.size ∧ ∀ j, j < w.heap.size → w'.heap[j]? = w.heap[j]?)) :
    ∃ u' w' g', R u' w' ∧ g.le g' ∧ Sim W0 g' (upd σ r (.row e size (k + ys.length))) n w' ∧ Rep g' (.slice (some r) (xs ++ ys)) u' := by
  obtain ⟨i, hi, hsi⟩ := sizeIs_sound hs
  have hE := hS.ents r
  rw [hx] at hE
  obtain ⟨hl, u0, cells, hu0, hlen, hdis⟩ := hE
  rw [hu] at hu0; cases hu0
  obtain ⟨i', zv, hi', hzv, hrz⟩ := ztree_sound hz g
  rw [hi] at hi'; cases hi'
  have hzc : zv.cells.size = i.size := by rw [hrz.size, hzs, hsi]
  have hcl : cells.length = k * size := by
    rcases hdis with ⟨h1, _⟩ | ⟨_, h1, _⟩
    · exact h1.1
    · exact h1
  have hG : ∀ b, g.own r = some b → ∀ (o : Nat), g.G b o = cells[o]? := by
    intro b hb
    rcases hdis with ⟨_, h1, h2⟩ | ⟨h1, _⟩
    · exact h2 b (h1 ▸ hb)
    · rw [h1] at hb; cases hb
  -- what the row holds, as values
  obtain ⟨vs, hvl, hvr, hvs, hvc⟩ : ∃ vs : List Value, vs.length = xs.length ∧ (∀ (i : Nat) (x : AV) (v : Value), xs[i]? = some x → vs[i]? = some v → Rep g x v) ∧ (∀ v ∈ vs, v.cells.size = size) ∧ flat vs = cells := by
    rcases hru with h0 | hru
    · refine ⟨[], by simp [h0], fun i x v _ hv => by simp at hv, fun v hv => by simp at hv, ?_⟩
      have : cells.length = 0 := by rw [hcl, ← hk, h0]; simp
      rw [List.eq_nil_of_length_eq_zero this]; rfl
    · cases hru with
      | slice _ _ vs A c size' hvl hc hm hvr hvs hcell hown' =>
        have hvs' := sizes_of hvl hvr hsx
        refine ⟨vs, hvl, hvr, hvs', ?_⟩
        have hfl : (flat vs).length = cells.length := by rw [flat_length vs size hvs', hvl, hk, hcl]
        rcases hcell with h0 | ⟨b, off, hA, hcell⟩
        · have h1 : cells.length = 0 := by rw [hcl, ← hk, h0]; simp
          rw [List.eq_nil_of_length_eq_zero h1, List.eq_nil_of_length_eq_zero (hfl.trans h1)]
        · apply List.ext_getElem?
          intro j
          by_cases hj : j < (flat vs).length
          · have hcj := hcell j _ (List.getElem?_eq_getElem hj)
            rcases hdis with ⟨hown, ho, hG'⟩ | ⟨_, _, _, A', hu', hG'⟩
            · have hob : (Value.slice A xs.length c).ownBlock = some b := by rw [hA]; rfl
              have hoff : off = 0 := by
                rcases hown.2 with ⟨hv0, _⟩ | ⟨g0, cap, cur, fz, hv0, _⟩
                · rw [hA] at hv0; simp at hv0
                · rw [hA] at hv0; simp at hv0; exact hv0.1.2
              rw [hoff, Nat.zero_add, hG' b hob] at hcj
              rw [hcj, List.getElem?_eq_getElem hj]
            · rw [hA] at hu'
              simp at hu'
              obtain ⟨rfl, _, _⟩ := hu'
              have hj' : j < cells.length := by omega
              have := (hG' j _ (List.getElem?_eq_getElem hj')).2
              simp only at this
              rw [hcj] at this
              rw [List.getElem?_eq_getElem hj, List.getElem?_eq_getElem hj', this]
          · rw [List.getElem?_eq_none (by omega), List.getElem?_eq_none (by omega)]
  have hful : (flat us).length = ys.length * size := by rw [flat_length us size hus, hul]
  have hall : ∀ v ∈ vs ++ us, v.cells.size = size := fun v hv => (List.mem_append.1 hv).elim (hvs v) (hus v)
  -- the rest, from the way the run ends
  have finish : ∀ (u' : Value) (w' : World), ownsR w' W0.heap.size e size u' (k + ys.length) (cells ++ flat us) → slen u' = k + ys.length → w'.os = w.os → w'.tape = w.tape → w'.output = w.output → w.heap.size ≤ w'.heap.size →
      ((u' = u ∧ ys.length = 0 ∧ g.own r = u.ownBlock ∧ w'.heap = w.heap) ∨ (0 < ys.length ∧ u'.ownBlock = u.ownBlock ∧ g.own r = u.ownBlock ∧ ∀ j, u.ownBlock ≠ some j → j < w.heap.size → w'.heap[j]? = w.heap[j]?) ∨
      (0 < ys.length ∧ u'.ownBlock = some w.heap.size ∧ ∀ j, j < w.heap.size → w'.heap[j]? = w.heap[j]?)) →
      ∃ g', g.le g' ∧ Sim W0 g' (upd σ r (.row e size (k + ys.length))) n w' ∧ Rep g' (.slice (some r) (xs ++ ys)) u' := by
    intro u' w' k1 k2 k3 k4 k5 k6 k7
    obtain ⟨g', hle, hS', hrow, hG'⟩ := hS.grow hx hu hG k1 hlen k2 k3 k4 k5 k6 k7
    refine ⟨g', hle, hS', ?_⟩
    have hlen' : (xs ++ ys).length = k + ys.length := by rw [List.length_append, hk]
    have hrep : ∀ (A' : Option Addr) (c' : Nat), u' = .slice A' (k + ys.length) c' → k + ys.length ≤ c' → c' ≤ maxLen → (k + ys.length = 0 ∨ ∃ b, A' = some ⟨b, 0, none⟩ ∧ u'.ownBlock = some b) → Rep g' (.slice (some r) (xs ++ ys)) u' := by
      intro A' c' hu' hc' hcm' hA'
      have := Rep.slice (g := g') (some r) (xs ++ ys) (vs ++ us) A' c' size (by simp [hvl, hul]) (by rw [hlen']; exact hc') hcm'
        (fun j x v h1 h2 => by
          by_cases hj : j < xs.length
          · rw [List.getElem?_append_left hj] at h1
            rw [List.getElem?_append_left (by omega)] at h2
            exact (hvr j x v h1 h2).mono hle
          · rw [List.getElem?_append_right (by omega)] at h1
            rw [List.getElem?_append_right (by omega), hvl] at h2
            exact (hur _ x v h1 h2).mono hle) hall
        (hA'.imp (fun h => by rw [hlen']; exact h) (fun ⟨b, hb1, hb2⟩ => ⟨b, 0, hb1, fun j q hq => by rw [Nat.zero_add, hG' b hb2, ← hvc, ← flat_append]; exact hq⟩))
        (fun id' hid => by cases hid; exact ⟨u', hrow, by rw [hlen', k2]; exact Nat.le_refl _, fun _ => by rw [hlen', hu']⟩)
      rw [hlen'] at this
      rw [hu']
      exact this
    rcases k1.2 with ⟨hv0, hn0⟩ | ⟨g0, cap, cur, fz, hv0, _, _, _, hnc, hcm, _⟩
    · exact hrep none 0 (by rw [hv0, hn0]) (by omega) (by unfold maxLen; omega) (.inl hn0)
    · exact hrep _ cap hv0 hnc hcm (.inr ⟨g0, rfl, by rw [hv0]; rfl⟩)
  have hfu : ys.length = 0 → flat us = [] := fun h0 => List.eq_nil_of_length_eq_zero (by rw [hful, h0]; simp)
  have hys : ys.length = 0 → ys = [] := List.eq_nil_of_length_eq_zero
  rcases hdis with ⟨hownR, ho, _⟩ | ⟨ho, _, hkm, A0, rfl, hG'⟩
  · have hownsi : ownsR w W0.heap.size e i.size u k cells := by rw [hsi]; exact hownR
    by_cases hy0 : ys.length = 0
    · have hr := h0 hy0 (by
        rcases hownR.2 with ⟨rfl, rfl⟩ | ⟨g0, cap, cur, fz, rfl, _, _, _, hnc, _⟩
        · exact ⟨none, 0, rfl, Nat.le_refl _⟩
        · exact ⟨_, cap, rfl, hnc⟩)
      obtain ⟨g', k1, k2, k3⟩ := finish u w (by rw [hfu hy0, List.append_nil, hy0]; exact hownR) (by rw [hy0]; exact hlen) rfl rfl rfl (Nat.le_refl _) (.inl ⟨rfl, hy0, ho, rfl⟩)
      exact ⟨u, w, g', hr, k1, k2, k3⟩
    · obtain ⟨u', w', hr, k1, k2, k3, k4, k5, k6, k7⟩ := hown i zv cells hi hzv hsi hzc hrz hownsi (by omega)
      obtain ⟨g', j1, j2, j3⟩ := finish u' w' (by rw [← hsi]; exact k1) k2 k3 k4 k5 k6 (.inr (k7.imp (fun ⟨q1, q2, q3⟩ => ⟨q1, q2, ho, q3⟩) fun h => h))
      exact ⟨u', w', g', hr, j1, j2, j3⟩
  · by_cases hy0 : ys.length = 0
    · have hr := h0 hy0 ⟨_, _, rfl, Nat.le_refl _⟩
      refine ⟨_, w, g, hr, g.le_refl, ?_, ?_⟩
      · have e1 : upd σ r (.row e size (k + ys.length)) = σ := by
          funext id
          by_cases hid : id = r
          · subst hid; rw [upd_same, hx, hy0]; rfl
          · rw [upd_ne _ _ _ _ hid]
        rw [e1]; exact hS
      · rw [hys hy0, List.append_nil]
        rcases hru with hx0 | hru
        · have hx0' : xs = [] := List.eq_nil_of_length_eq_zero hx0
          have hk0 : k = 0 := by omega
          subst hx0' hk0
          exact .slice (some r) [] [] _ 0 size rfl (Nat.le_refl _) (by omega) (fun i x v h _ => by simp at h) (fun v hv => by simp at hv) (.inl rfl) (fun id hid => by cases hid; exact ⟨_, hu, by simp, fun _ => rfl⟩)
        · exact hru
    · obtain ⟨u', w', hr, k1, k2, k3, k4, k5, k6, k7⟩ := hfull i zv A0 cells hi hzv hsi hzc hrz rfl (by rw [hsi]; exact hcl) (fun j q hq => by
        obtain ⟨h1, h2⟩ := hG' j q hq
        obtain ⟨b0, o0, s0⟩ := A0
        simp only at h1 h2
        subst h1
        rw [Addr.add_lit]; exact hS.imm _ _ _ h2) (by omega)
      obtain ⟨g', j1, j2, j3⟩ := finish u' w' (by rw [← hsi]; exact k1) k2 k3 k4 k5 k6 (.inr (.inr k7))
      exact ⟨u', w', g', hr, j1, j2, j3⟩

/-- The heart: a row of one's own grows by the elements of whatever slice. -/
theorem append_core {t ty e : TypeId} {size bytes k : Nat} {z : AV} (ht : sliceTy P t = some e) (hs : sizeIs P e size = true) (hb : bytesIs P e bytes = true) (hz : ztree P e = some z) (hzs : z.sz = size)
    {W0 : World} {g : Ghost} {σ : Nat → Ent} {n : Nat} {w : World} {r : Nat} {u y : Value} {xs ys : List AV} {Y : AV} (hS : Sim W0 g σ n w) (hx : σ r = .row e size k) (hu : g.row r = some u) (hk : xs.length = k)
    (hru : xs.length = 0 ∨ Rep g (.slice (some r) xs) u) (hY : Y.elems = some ys) (hry : Rep g Y y) (hsx : xs.all (fun x => x.sz == size) = true) (hsy : ys.all (fun x => x.sz == size && x.cell) = true) (hbytes : (xs.length + ys.length) * bytes ≤ 140737488355328)
    (hmx : xs.length + ys.length ≤ maxLen) :
    ∃ u' w' g', (Builtin.append_ #[t, t] ty #[u, y]).run P w = .ok u' w' ∧ g.le g' ∧ Sim W0 g' (upd σ r (.row e size (k + ys.length))) n w' ∧ Rep g' (.slice (some r) (xs ++ ys)) u' := by
  have hsy1 : ys.all (fun x => x.sz == size) = true := by
    rw [List.all_eq_true] at hsy ⊢
    intro x hx
    have := hsy x hx
    simp only [Bool.and_eq_true] at this
    exact this.1
  obtain ⟨A, m, c, us, hy, hm, hul, hur, hus, huc⟩ := elems_vals hY hry hsy1
  subst hy
  subst hm
  have hone : ∀ q ∈ flat us, q.oneCell' = true := by
    intro q hq
    obtain ⟨v, hv, hq⟩ := mem_flat.1 hq
    obtain ⟨j, hj⟩ := List.getElem?_of_mem hv
    have hlt : j < ys.length := by rw [← hul]; exact (List.getElem?_eq_some_iff.1 hj).1
    have hc := List.all_eq_true.1 hsy ys[j] (List.getElem_mem hlt)
    simp only [Bool.and_eq_true] at hc
    exact (hur j _ v (List.getElem?_eq_getElem hlt) hj).cell_ok hc.2 q hq
  have hful : (flat us).length = ys.length * size := by rw [flat_length us size hus, hul]
  obtain ⟨i0, hi0, _⟩ := sizeIs_sound hs
  have hbi : ∀ i, P.info? e = some i → i.bytes = bytes := fun i hi => by unfold bytesIs at hb; rw [hi] at hb; simpa using hb
  refine append_gen (P := P) (R := fun u' w' => (Builtin.append_ #[t, t] ty #[u, .slice A ys.length c]).run P w = .ok u' w') hs hz hzs hS hx hu hk hru hsx hul hur hus (fun h0 ⟨A', c', hu', hc'⟩ => ?_) (fun i zv cells hi hzv hsi hzc hrz hown hpos => ?_) (fun i zv A0 cells hi hzv hsi hzc hrz hu' hcl hcells hpos => ?_)
  · subst hu'
    rw [h0]
    exact run_append_none' (P := P) (sliceTy_sound ht) hi0 hc'
  · rcases huc with h' | ⟨b, off, rfl, huc⟩
    · omega
    · exact run_append_row (P := P) (ty := ty) (sliceTy_sound ht) hi hzv hzc hown (a := ⟨b, off, none⟩) (m := ys.length) (c := c) (news := flat us) (by rw [hsi]; exact hful)
        (fun j q hq => by rw [Addr.add_lit]; exact hS.imm _ _ _ (huc j q hq)) hone (by omega) (by rw [hbi i hi, ← hk]; exact hbytes) (by rw [← hk]; exact hmx) hS.below.size
  · subst hu'
    rcases huc with h' | ⟨b, off, rfl, huc⟩
    · omega
    · exact run_append_full (P := P) (ty := ty) (base := W0.heap.size) (sliceTy_sound ht) hi hzv hzc (A := A0) (n := k) (xs := cells) hcl hcells
        (a := ⟨b, off, none⟩) (m := ys.length) (c := c) (news := flat us) (by rw [hsi]; exact hful) (fun j q hq => by rw [Addr.add_lit]; exact hS.imm _ _ _ (huc j q hq)) (by omega) (by rw [hbi i hi, ← hk]; exact hbytes) (by rw [← hk]; exact hmx) hS.below.size
end
end Go.Ab
