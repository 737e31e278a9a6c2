/- Texts A12, A13, A14, A15, A16, B1, B2, joined. -/
import Derived.Test.YtemmlldpmgfblaaGreatDoorM1
import Derived.Laws.IdiomStrings
import Derived.Laws.Build
import Derived.Laws.StructEq
import Derived.ChangeKeysEq
import Derived.Lib.AppendZerosOnto
import Derived.Scope

/- Operations on rows that are written: append, the addresses of elements, loads and stores through them, parts, copy, clear. -/
namespace Go.Ab
open Go.RowKit

section
variable {P : Program} {o : Oper} {s : Slots} {id : Nat}

theorem Sim.mrowAt {W0 : World} {g : Ghost} {σ : Nat → Ent} {n : Nat} {w : World} (h : Sim W0 g σ n w) {r ver : Nat} {e : TypeId} {size : Nat} {xs : List AV} (hx : σ r = .mrow ver e size xs) :
    ∃ u vs, g.mr r = some (ver, u) ∧ slen u = xs.length ∧ vs.length = xs.length ∧ (∀ (i : Nat) (x : AV) (v : Value), xs[i]? = some x → vs[i]? = some v → Rep g x v) ∧ (∀ v ∈ vs, v.cells.size = size) ∧ ownsR w W0.heap.size e size u xs.length (flat vs) := by
  have hE := h.ents r
  rw [hx] at hE
  obtain ⟨_, _, _, u, vs, h1, h2, h3, h4, h5, h6, _⟩ := hE
  exact ⟨u, vs, h1, h2, h3, h4, h5, h6⟩

/-- append to (the first part of) a row that may be written. -/
theorem holds_append_ms {t e : TypeId} {size bytes r ver k : Nat} {z Y : AV} {x y : Operand} {xs ys : List AV} (ho : o.op = .call { callee := .builtin .append, args := #[x, y], argTypes := #[t, t] }) (ht : sliceTy P t = some e) (hs : sizeIs P e size = true) (hb : bytesIs P e bytes = true)
    (hz : ztree P e = some z) (hzs : z.sz = size) (hx : aeval s x = .ms r ver size 0 k) (hk : k ≤ xs.length) (hy : aeval s y = Y) (hY : Y.elems = some ys)
    (hsy : ys.all (fun x => x.sz == size && x.cell) = true) (hbytes : (k + ys.length) * bytes ≤ 140737488355328) (hmx : k + ys.length ≤ maxLen) :
    OpHolds P o s id [(r, .mrow ver e size xs)] (.ms r (ver + 1) size 0 (k + ys.length)) [(r, .mrow (ver + 1) e size (xs.take k ++ ys))] := by
  refine ⟨fun p hp => by simp at hp; subst hp; simp, fun q hq => .inr ⟨(r, .mrow ver e size xs), by simp, by simp at hq; subst hq; rfl⟩, fun W0 g σ n w a hS hr _ _ hp => ?_⟩
  have h1 := hr x (by simp [ho, Op.operands, Call.operands])
  have h2 := hr y (by simp [ho, Op.operands, Call.operands])
  rw [hx] at h1
  rw [hy] at h2
  have hp' : σ r = .mrow ver e size xs := hp (r, .mrow ver e size xs) (by simp)
  obtain ⟨cs, he⟩ := execOp_builtin (P := P) (a := a) ho w
  obtain ⟨i, hi, hsi⟩ := sizeIs_sound hs
  have hbi : i.bytes = bytes := by unfold bytesIs at hb; rw [hi] at hb; simpa using hb
  obtain ⟨i', zv, hi', hzv, hrz⟩ := ztree_sound hz g
  rw [hi] at hi'; cases hi'
  have hzc : zv.cells.size = i.size := by rw [hrz.size, hzs, hsi]
  obtain ⟨u, vs, hmr, hlen, hvl, hvr, hvs, hown⟩ := hS.mrowAt hp'
  have hsy1 : ys.all (fun x => x.sz == size) = true := by
    rw [List.all_eq_true] at hsy ⊢
    intro x hx
    have := hsy x hx
    simp only [Bool.and_eq_true] at this
    exact this.1
  generalize hv : a.eval x = v at h1
  generalize hw : a.eval y = yv at h2
  obtain ⟨A, m, c, us, rfl, rfl, hul, hur, hus, huc⟩ := elems_vals hY h2 hsy1
  have hone : ∀ q ∈ flat us, q.oneCell' = true := by
    intro q hq
    obtain ⟨v, hv, hq⟩ := mem_flat.1 hq
    obtain ⟨j, hj⟩ := List.getElem?_of_mem hv
    have hlt : j < ys.length := by rw [← hul]; exact (List.getElem?_eq_some_iff.1 hj).1
    have hc := List.all_eq_true.1 hsy ys[j] (List.getElem_mem hlt)
    simp only [Bool.and_eq_true] at hc
    exact (hur j _ v (List.getElem?_eq_getElem hlt) hj).cell_ok hc.2 q hq
  have hful : (flat us).length = ys.length * size := by rw [flat_length us size hus, hul]
  have htk : ∀ v ∈ vs.take k, v.cells.size = size := fun v hv => hvs v (List.mem_of_mem_take hv)
  have hftk : flat (vs.take k) = (flat vs).take (k * size) := flat_take vs size hvs k
  cases h1 with
  | ms _ _ _ _ _ ver' u' Ax cx hm' hv' hlx hcx h =>
    rw [hmr] at hm'; cases hm'
    obtain ⟨A0, n0, c0, rfl, j1, j2, j3⟩ := h rfl
    obtain ⟨rfl, rfl⟩ := j2 rfl
    simp only [slen] at hlen
    subst hlen
    -- the slice itself holds its block alone, as far as it goes
    have hownk : ownsR w W0.heap.size e size (.slice Ax k cx) k (flat (vs.take k)) := by
      refine ⟨by rw [flat_length _ size htk, List.length_take, hvl, Nat.min_eq_left hk], ?_⟩
      rcases hown.2 with ⟨h0, h00⟩ | ⟨b, cap, cur, fz, hb1, hb2, hb3, hb4, hb5, hb6, hb7, hb8⟩
      · simp at h0
        obtain ⟨rfl, _, rfl⟩ := h0
        have : k = 0 := by omega
        subst this
        exact .inl ⟨rfl, rfl⟩
      · simp at hb1
        obtain ⟨rfl, rfl⟩ := hb1
        refine .inr ⟨b, cx, cur, fz, rfl, hb2, hb3, hb4, by omega, hb6, hb7, ?_⟩
        rw [hftk, ← hb8, List.take_take, Nat.min_eq_left (Nat.mul_le_mul_right _ hk)]
    have finish : ∀ (u' : Value) (w' : World), ownsR w' W0.heap.size e size u' (k + ys.length) (flat (vs.take k) ++ flat us) → slen u' = k + ys.length → w'.os = w.os → w'.tape = w.tape → w'.output = w.output → w.heap.size ≤ w'.heap.size →
        (u'.ownBlock = (Value.slice Ax xs.length cx).ownBlock ∨ u'.ownBlock = some w.heap.size) → (∀ j, (Value.slice Ax xs.length cx).ownBlock ≠ some j → j < w.heap.size → w'.heap[j]? = w.heap[j]?) →
        ∃ g', g.le g' ∧ Sim W0 g' (upd σ r (.mrow (ver + 1) e size (xs.take k ++ ys))) n w' ∧ Rep g' (.ms r (ver + 1) size 0 (k + ys.length)) u' := by
      intro u' w' k1 k2 k3 k4 k5 k6 k7 k8
      have hlen' : (xs.take k ++ ys).length = k + ys.length := by rw [List.length_append, List.length_take, Nat.min_eq_left hk]
      obtain ⟨g', hle, hS', hm2, _⟩ := hS.turnM (ver' := ver + 1) (xs' := xs.take k ++ ys) (vs' := vs.take k ++ us) hp' hmr (.inr (Nat.lt_succ_self _)) (by rw [hlen', flat_append]; exact k1) (by rw [hlen']; exact k2) (by simp [hvl, hul])
        (fun j x v h1 h2 => by
          have hxl : (xs.take k).length = k := by rw [List.length_take, Nat.min_eq_left hk]
          have hvl' : (vs.take k).length = k := by rw [List.length_take, hvl, Nat.min_eq_left hk]
          by_cases hj : j < k
          · rw [List.getElem?_append_left (by omega), List.getElem?_take, if_pos hj] at h1
            rw [List.getElem?_append_left (by omega), List.getElem?_take, if_pos hj] at h2
            exact hvr j x v h1 h2
          · rw [List.getElem?_append_right (by omega), hxl] at h1
            rw [List.getElem?_append_right (by omega), hvl'] at h2
            exact hur _ x v h1 h2) (fun v hv => (List.mem_append.1 hv).elim (htk v) (hus v)) k3 k4 k5 k6 k7 k8
      refine ⟨g', hle, hS', ?_⟩
      rcases k1.2 with ⟨hv0, hn0⟩ | ⟨g0, cap, cur, fz, hv0, _, _, _, hnc, hcm, _⟩
      · subst hv0
        rw [hn0]
        exact .ms r (ver + 1) size 0 0 (ver + 1) _ none 0 hm2 (Nat.le_refl _) (Nat.le_refl _) (by unfold maxLen; omega) fun _ => ⟨_, _, _, rfl, by omega, fun _ => ⟨rfl, rfl⟩, fun h => absurd h (by omega)⟩
      · subst hv0
        exact .ms r (ver + 1) size 0 _ (ver + 1) _ _ cap hm2 (Nat.le_refl _) hnc hcm fun _ => ⟨_, _, _, rfl, by omega, fun _ => ⟨rfl, rfl⟩, fun _ => ⟨g0, rfl, by simp⟩⟩
    have hexec : ∀ u' w', (Builtin.append_ #[t, t] o.type #[.slice Ax k cx, .slice A ys.length c]).run P w = .ok u' w' → (execOp a.eval o).run P w = .ok (.value u') w' := fun u' w' hrun => by
      rw [he]
      simp [builtin, hv, hw, hrun]
    unfold runsTo
    have hownsi : ownsR w W0.heap.size e i.size (.slice Ax k cx) k (flat (vs.take k)) := by rw [hsi]; exact hownk
    by_cases h0 : ys.length = 0
    · have hrun := run_append_none (P := P) (ty := o.type) (sliceTy_sound ht) hi hownsi (A := A) (c := c)
      rw [← h0] at hrun
      rw [hexec _ _ hrun]
      have hfu : flat us = [] := List.eq_nil_of_length_eq_zero (by rw [hful, h0]; simp)
      exact finish _ w (by rw [hfu, List.append_nil, h0]; exact hownk) (by simp [slen, h0]) rfl rfl rfl (Nat.le_refl _) (.inl (by cases Ax <;> rfl)) fun _ _ _ => rfl
    · rcases huc with h' | ⟨b, off, rfl, huc⟩
      · exact absurd h' h0
      · obtain ⟨u', w', hrun, k1, k2, k3, k4, k5, k6, k7⟩ := run_append_row (P := P) (ty := o.type) (sliceTy_sound ht) hi hzv hzc hownsi (a := ⟨b, off, none⟩) (m := ys.length) (c := c) (news := flat us) (by rw [hsi]; exact hful)
          (fun j q hq => by rw [Addr.add_lit]; exact hS.imm _ _ _ (huc j q hq)) hone (by omega) (by rw [hbi]; exact hbytes) hmx hS.below.size
        rw [hexec _ _ hrun]
        have eqb : (Value.slice Ax k cx).ownBlock = (Value.slice Ax xs.length cx).ownBlock := by cases Ax <;> rfl
        exact finish u' w' (by rw [← hsi]; exact k1) k2 k3 k4 k5 k6 (k7.imp (fun h => h.2.1.trans eqb) (fun h => h.2.1)) (fun j hj hlt => by
          rcases k7 with ⟨_, _, h⟩ | ⟨_, _, h⟩
          · exact h j (by rw [eqb]; exact hj) hlt
          · exact h j hlt)

/-- The address of an element of a row that may be written. -/
theorem holds_indexAddr_ms {t e : TypeId} {size r ver lo len : Nat} {x i : Operand} {xs : List AV} {k : IntKind} {n : Int} (ho : o.op = .indexAddr t x i) (ht : sliceTy P t = some e) (hs : sizeIs P e size = true) (hx : aeval s x = .ms r ver size lo len) (hi : aeval s i = .lit (.int k n)) (h0 : 0 ≤ n) (hn : n.toNat < len) :
    OpHolds P o s id [(r, .mrow ver e size xs)] (.mp r ver [lo + n.toNat] ((lo + n.toNat) * size)) [] := by
  refine holds_read (fun p hp => by simp at hp; subst hp; simp) fun W0 g σ N w a hS hr hp => ?_
  have h1 := hr x (by simp [ho, Op.operands])
  have h2 := hr i (by simp [ho, Op.operands])
  rw [hx] at h1
  rw [hi] at h2
  have e2 := rep_lit_inv h2
  have hp' : σ r = .mrow ver e size xs := hp (r, .mrow ver e size xs) (by simp)
  obtain ⟨u, vs, hmr, hlen, hvl, hvr, hvs, hown⟩ := hS.mrowAt hp'
  obtain ⟨ie, hie, hsi⟩ := sizeIs_sound hs
  generalize hv : a.eval x = v at h1
  cases h1 with
  | ms _ _ _ _ _ ver' u' A c hm' hv' hl hc h =>
    rw [hmr] at hm'; cases hm'
    obtain ⟨A0, n0, c0, rfl, j1, j2, j3⟩ := h rfl
    obtain ⟨b, rfl, rfl⟩ := j3 (by omega)
    obtain ⟨m, rfl⟩ := Int.eq_ofNat_of_zero_le h0
    simp only [Int.toNat_natCast] at hn ⊢
    refine ⟨.pointer (some ⟨b, (lo + m) * size, none⟩), ?_, .mp r ver _ _ ver _ _ hmr (Nat.le_refl _) fun _ => ⟨b, _, _, rfl, rfl⟩⟩
    have hlt : (m : Int) < (len : Int) := by omega
    simp [execOp, ho, hv, e2, Instr.indexAt, asIntOf, run_underlying (sliceTy_sound ht), sizeOf, typeInfo, hie, hsi, Addr.add_lit, Nat.add_mul]
    omega

theorem holds_fieldAddr_mp {t : TypeId} {x : Operand} {f k i ver off : Nat} {path : List Nat} {e : TypeId} {size : Nat} {xs : List AV} (ho : o.op = .fieldAddr t x f) (hx : aeval s x = .mp i ver path off) (hf : fieldOff P t f = some k) :
    OpHolds P o s id [(i, .mrow ver e size xs)] (.mp i ver (path ++ [f]) (off + k)) [] := by
  refine holds_read (fun p hp => by simp at hp; subst hp; simp) fun W0 g σ N w a hS hr hp => ?_
  have h1 := hr x (by simp [ho, Op.operands])
  rw [hx] at h1
  have hp' : σ i = .mrow ver e size xs := hp (i, .mrow ver e size xs) (by simp)
  obtain ⟨u, vs, hmr, _⟩ := hS.mrowAt hp'
  generalize hv : a.eval x = v at h1
  cases h1 with
  | mp _ _ _ _ ver' u' ad hm' hv' h =>
    rw [hmr] at hm'; cases hm'
    obtain ⟨b, n, c, rfl, rfl⟩ := h rfl
    refine ⟨.pointer (some ⟨b, off + k, none⟩), ?_, .mp i ver _ _ ver _ _ hmr (Nat.le_refl _) fun _ => ⟨b, _, _, rfl, rfl⟩⟩
    have := fieldOff_sound hf b off w
    simp only [execOp, ho, hv, Sem.run_bind, this, Result.andThen_ok, Sem.run_pure]

theorem holds_indexAddr_mp {t e : TypeId} {x i : Operand} {j ver off len size : Nat} {path : List Nat} {k : IntKind} {n : Int} {e' : TypeId} {size' : Nat} {xs : List AV} (ho : o.op = .indexAddr t x i) (ht : arrTy P t = some (len, e)) (hs : sizeIs P e size = true) (hx : aeval s x = .mp j ver path off) (hi : aeval s i = .lit (.int k n)) (h0 : 0 ≤ n) (hn : n.toNat < len) :
    OpHolds P o s id [(j, .mrow ver e' size' xs)] (.mp j ver (path ++ [n.toNat]) (off + n.toNat * size)) [] := by
  refine holds_read (fun p hp => by simp at hp; subst hp; simp) fun W0 g σ N w a hS hr hp => ?_
  have h1 := hr x (by simp [ho, Op.operands])
  have h2 := hr i (by simp [ho, Op.operands])
  rw [hx] at h1
  rw [hi] at h2
  have e2 := rep_lit_inv h2
  have hp' : σ j = .mrow ver e' size' xs := hp (j, .mrow ver e' size' xs) (by simp)
  obtain ⟨u, vs, hmr, _⟩ := hS.mrowAt hp'
  obtain ⟨ie, hie, hsi⟩ := sizeIs_sound hs
  generalize hv : a.eval x = v at h1
  cases h1 with
  | mp _ _ _ _ ver' u' ad hm' hv' h =>
    rw [hmr] at hm'; cases hm'
    obtain ⟨b, n', c, rfl, rfl⟩ := h rfl
    obtain ⟨m, rfl⟩ := Int.eq_ofNat_of_zero_le h0
    simp only [Int.toNat_natCast] at hn ⊢
    refine ⟨.pointer (some ⟨b, off + m * size, none⟩), ?_, .mp j ver _ _ ver _ _ hmr (Nat.le_refl _) fun _ => ⟨b, _, _, rfl, rfl⟩⟩
    have hlt : (m : Int) < (len : Int) := by omega
    simp [execOp, ho, hv, e2, Instr.indexAt, asIntOf, run_underlying (arrTy_sound ht), Instr.sureAddr, sizeOf, typeInfo, hie, hsi, Addr.add_lit]
    omega

/-- What lies at a place of a row. -/
theorem row_cells {xs : List AV} {vs : List Value} {path : List Nat} {y : AV} {g : Ghost} (hvl : vs.length = xs.length) (hvr : ∀ (i : Nat) (x : AV) (v : Value), xs[i]? = some x → vs[i]? = some v → Rep g x v) (hg : (AV.agg xs).get path = some y) :
    ∃ u, Rep g y u ∧ (AV.agg xs).offs path + u.cells.size ≤ (flat vs).length ∧ ∀ (j : Nat) (x : Value), u.cells.toList[j]? = some x → (flat vs)[(AV.agg xs).offs path + j]? = some x := by
  obtain ⟨u, h1, h2, h3⟩ := (Rep.agg xs vs hvl hvr).get hg
  exact ⟨u, h1, by simpa [Value.cells] using h2, by simpa [Value.cells] using h3⟩

theorem holds_load_mp {t : TypeId} {x : Operand} {i ver off : Nat} {path : List Nat} {e : TypeId} {size : Nat} {xs : List AV} {y : AV} (ho : o.op = .load t x) (hx : aeval s x = .mp i ver path off) (hy : (AV.agg xs).get path = some y) (hoff : (AV.agg xs).offs path = off) (ht : tyIs P t y.isAgg y.sz = true) :
    OpHolds P o s id [(i, .mrow ver e size xs)] y [] := by
  refine holds_read (fun p hp => by simp at hp; subst hp; simp) fun W0 g σ N w a hS hr hp => ?_
  have h1 := hr x (by simp [ho, Op.operands])
  rw [hx] at h1
  have hp' : σ i = .mrow ver e size xs := hp (i, .mrow ver e size xs) (by simp)
  obtain ⟨u, vs, hmr, hlen, hvl, hvr, hvs, hown⟩ := hS.mrowAt hp'
  obtain ⟨q, hq, hqb, hqc⟩ := row_cells hvl hvr hy
  generalize hv : a.eval x = v at h1
  cases h1 with
  | mp _ _ _ _ ver' u' ad hm' hv' h =>
    rw [hmr] at hm'; cases hm'
    obtain ⟨b, n', c, rfl, rfl⟩ := h rfl
    refine ⟨q, ?_, hq⟩
    have := run_loadAt (P := P) hq ht (b := b) (off := off) (w := w) fun j z hz => by
      rw [← hoff]
      exact hown.cells (g := b) rfl _ _ (hqc j z hz)
    simp [execOp, ho, hv, this]

theorem set_flat {xs : List AV} {vs : List Value} {g : Ghost} (hvl : vs.length = xs.length) (hvr : ∀ (i : Nat) (x : AV) (v : Value), xs[i]? = some x → vs[i]? = some v → Rep g x v) {j : Nat} {p : List Nat} {y z : AV} {u : Value} (hg : (AV.agg xs).get (j :: p) = some y) (hz : Rep g z u) (hs : y.sz = z.sz) :
    ∃ xs' vs', (AV.agg xs).put (j :: p) z = .agg xs' ∧ vs'.length = xs'.length ∧ xs'.length = xs.length ∧ (∀ (i : Nat) (x : AV) (v : Value), xs'[i]? = some x → vs'[i]? = some v → Rep g x v) ∧
      flat vs' = (flat vs).take ((AV.agg xs).offs (j :: p)) ++ u.cells.toList ++ (flat vs).drop ((AV.agg xs).offs (j :: p) + u.cells.size) ∧ (∀ size, (∀ v ∈ vs, v.cells.size = size) → ∀ v ∈ vs', v.cells.size = size) := by
  simp only [AV.get] at hg
  cases hi : xs[j]? with
  | none => rw [hi] at hg; cases hg
  | some q =>
    rw [hi] at hg
    have hlt : j < vs.length := by rw [hvl]; exact (List.getElem?_eq_some_iff.1 hi).1
    have hvj : vs[j]? = some vs[j] := List.getElem?_eq_getElem hlt
    obtain ⟨v', hv', hc'⟩ := (hvr j q _ hi hvj).put hg hz hs
    obtain ⟨wv, hw, hwb, _⟩ := (hvr j q _ hi hvj).get hg
    have hwu : wv.cells.size = u.cells.size := by rw [hw.size, hz.size, hs]
    obtain ⟨hf, hfl⟩ := flat_take_drop xs vs hvl (fun j x w h1 h2 => (hvr j x w h1 h2).size) j _ hvj
    have hsz : v'.cells.size = (vs[j]).cells.size := by
      rw [← Array.length_toList, hc']
      simp only [List.length_append, List.length_take, List.length_drop, Array.length_toList]
      omega
    refine ⟨xs.set j (q.put p z), vs.set j v', by simp only [AV.put, hi], by simp [hvl], by simp, fun i x w h1 h2 => ?_, ?_, fun size hsize v hv => ?_⟩
    · by_cases hij : i = j
      · subst hij
        rw [List.getElem?_set_self (by omega)] at h1
        rw [List.getElem?_set_self hlt] at h2
        cases h1; cases h2; exact hv'
      · rw [List.getElem?_set_ne (Ne.symm hij)] at h1 h2
        exact hvr i x w h1 h2
    · have e1 : flat (vs.set j v') = flat (vs.take j) ++ v'.cells.toList ++ flat (vs.drop (j + 1)) := by
        have hlt' : j < (vs.set j v').length := by simpa using hlt
        have := (List.take_append_drop j (vs.set j v'))
        rw [← this, flat_append, List.drop_eq_getElem_cons hlt', flat_cons]
        have tk : (vs.set j v').take j = vs.take j := by
          apply List.ext_getElem?
          intro i
          rw [List.getElem?_take, List.getElem?_take]
          split
          · rw [List.getElem?_set_ne (by omega)]
          · rfl
        simp [tk, List.drop_set_of_lt, List.append_assoc]
      rw [e1, hc', hf]
      simp only [AV.offs, hi]
      have l1 : (flat (vs.take j)).length = AV.szl (xs.take j) := hfl
      have l2 : q.offs p + u.cells.size ≤ (vs[j]).cells.toList.length := by rw [Array.length_toList]; omega
      rw [List.append_assoc (flat (vs.take j)) (vs[j]).cells.toList (flat (vs.drop (j + 1))), ← l1, List.take_length_add_append, Nat.add_assoc, List.drop_length_add_append, List.take_append_of_le_length (by omega), List.drop_append_of_le_length (by omega)]
      simp [List.append_assoc]
    · rcases List.mem_or_eq_of_mem_set hv with h | h
      · exact hsize v h
      · rw [h, hsz]; exact hsize _ (List.getElem_mem hlt)

/-- Cells of a row are written. -/
theorem row_written {W0 w : World} {e : TypeId} {size b n c off : Nat} {cells news : List Value} (h : ownsR w W0.heap.size e size (.slice (some ⟨b, 0, none⟩) n c) n cells) (hfit : off + news.length ≤ cells.length) (h1 : ∀ v ∈ news, v.oneCell' = true) :
    ∃ w', (storeCells ⟨b, off, none⟩ news 0).run P w = .ok () w' ∧ ownsR w' W0.heap.size e size (.slice (some ⟨b, 0, none⟩) n c) n (cells.take off ++ news ++ cells.drop (off + news.length)) ∧
      w'.os = w.os ∧ w'.tape = w.tape ∧ w'.output = w.output ∧ w.heap.size ≤ w'.heap.size ∧ ∀ j, j ≠ b → w'.heap[j]? = w.heap[j]? := by
  rcases h.2 with ⟨h0, _⟩ | ⟨g0, cap, cur, fz, hv, hb, hheap, hfz, hnc, hcm, hcs, htake⟩
  · simp at h0
  · simp at hv
    obtain ⟨rfl, rfl⟩ := hv
    have hcl : cells.length ≤ cur.size := by rw [h.1, hcs]; exact Nat.mul_le_mul_right _ hnc
    have hst := run_storeCells_fz (P := P) b off e fz news 0 cur w hheap hfz (by simp; omega) h1
    simp only [Nat.add_zero] at hst
    have hcz : (cur.toList.take off ++ news ++ cur.toList.drop (off + news.length)).toArray.size = cur.size := by
      simp only [List.size_toArray, List.length_append, List.length_take, List.length_drop, Array.length_toList]
      omega
    have hlen : (cells.take off ++ news ++ cells.drop (off + news.length)).length = n * size := by
      simp only [List.length_append, List.length_take, List.length_drop, ← h.1]
      omega
    refine ⟨_, hst, ⟨hlen, .inr ⟨b, c, _, fz, rfl, hb, setRow_heap w b _ _ _ _ hheap, by rw [hcz]; exact hfz, hnc, hcm, by rw [hcz]; exact hcs, ?_⟩⟩, rfl, rfl, rfl, by simp [World.setRow], fun j hj => setRow_other w b j _ hj⟩
    have e0 : cells = cur.toList.take (n * size) := htake.symm
    show (cur.toList.take off ++ news ++ cur.toList.drop (off + news.length)).take (n * size) = _
    have l0 : cells.length = n * size := h.1
    have lo : off ≤ n * size := by omega
    rw [e0, List.take_take, Nat.min_eq_left lo, List.drop_take, List.take_append, List.take_append, List.take_take]
    have a1 : (cur.toList.take off).length = off := by rw [List.length_take, Array.length_toList]; omega
    rw [Nat.min_eq_right lo, a1, List.take_of_length_le (l := news) (by omega), List.length_append, a1]

theorem holds_store_mp {t : TypeId} {x y : Operand} {i ver off j : Nat} {p : List Nat} {e : TypeId} {size : Nat} {xs xs' : List AV} {old z : AV} (ho : o.op = .store t x y) (hx : aeval s x = .mp i ver (j :: p) off) (hz : aeval s y = z) (hy : (AV.agg xs).get (j :: p) = some old) (hoff : (AV.agg xs).offs (j :: p) = off)
    (hsz : old.sz = z.sz) (ht : sizeIs P t z.sz = true) (hc : z.cell = true) (hput : (AV.agg xs).put (j :: p) z = .agg xs') : OpHolds P o s id [(i, .mrow ver e size xs)] (.tup []) [(i, .mrow ver e size xs')] := by
  refine ⟨fun p hp => by simp at hp; subst hp; simp, fun q hq => .inr ⟨(i, .mrow ver e size xs), by simp, by simp at hq; subst hq; rfl⟩, fun W0 g σ n w a hS hr _ _ hp => ?_⟩
  have h1 := hr x (by simp [ho, Op.operands])
  have h2 := hr y (by simp [ho, Op.operands])
  rw [hx] at h1
  rw [hz] at h2
  generalize hv : a.eval x = v at h1
  generalize hu : a.eval y = zv at h2
  have hp' : σ i = .mrow ver e size xs := hp (i, .mrow ver e size xs) (by simp)
  obtain ⟨u, vs, hmr, hlen, hvl, hvr, hvs, hown⟩ := hS.mrowAt hp'
  obtain ⟨q, hq, hqb, _⟩ := row_cells hvl hvr hy
  have hqz : q.cells.size = zv.cells.size := by rw [hq.size, h2.size, hsz]
  obtain ⟨xs2, vs', k1, k2, k3, k4, k5, k6⟩ := set_flat hvl hvr hy h2 hsz
  rw [hput] at k1
  cases k1
  cases h1 with
  | mp _ _ _ _ ver' u' ad hm' hv' h =>
    rw [hmr] at hm'; cases hm'
    obtain ⟨b, n', c, rfl, rfl⟩ := h rfl
    simp only [slen] at hlen
    subst hlen
    obtain ⟨w', hst, l1, l2, l3, l4, l5, l6⟩ := row_written (P := P) (off := off) (news := zv.cells.toList) hown (by rw [← hoff, Array.length_toList, ← hqz]; exact hqb) (h2.cell_ok hc)
    obtain ⟨ti, hti, htis⟩ := sizeIs_sound ht
    have hexec : (execOp a.eval o).run P w = .ok .skip w' := by
      simp [execOp, ho, hv, hu, Instr.storeAt, Instr.sureAddr, storeVar, sizeOf, typeInfo, hti, htis, h2.size, hst]
    unfold runsTo
    rw [hexec]
    rw [hoff] at k5
    have e1 : zv.cells.toList.length = zv.cells.size := Array.length_toList
    rw [e1, ← k5] at l1
    obtain ⟨g', hle, hS', _, _⟩ := hS.turnM (ver' := ver) (xs' := xs') (vs' := vs') hp' hmr (.inl ⟨rfl, rfl⟩) (by rw [k3]; exact l1) (by simp [slen, k3]) k2 k4 (k6 size hvs) l2 l3 l4 l5 (.inl rfl) (fun j hj _ => l6 j (fun e => hj (by rw [e]; rfl)))
    exact ⟨g', hle, hS', .tup [] [] rfl fun i x v h _ => by simp at h⟩

theorem holds_len_ms {t e : TypeId} {x : Operand} {r ver size lo len : Nat} (ho : o.op = .call { callee := .builtin .len, args := #[x], argTypes := #[t] }) (ht : sliceTy P t = some e) (hx : aeval s x = .ms r ver size lo len) : OpHolds P o s id [] (.lit (.int .i64 len)) [] :=
  holds_pure fun g w a hr => by
    have h1 := hr x (by simp [ho, Op.operands, Call.operands])
    rw [hx] at h1
    obtain ⟨cs, he⟩ := execOp_builtin (P := P) (a := a) ho w
    generalize hv : a.eval x = v at h1
    cases h1
    refine ⟨_, ?_, .lit _ rfl⟩
    rw [he]
    simp [builtin, Builtin.len_, hv, run_underlying (sliceTy_sound ht), goInt]

/-- A part of a row that may be written. -/
theorem holds_slice_ms {t e : TypeId} {x : Operand} {lo hi : Option Operand} {r ver size l0 len l h : Nat} {xs : List AV} (ho : o.op = .slice t x lo hi none) (ht : sliceTy P t = some e) (hs : sizeIs P e size = true) (hx : aeval s x = .ms r ver size l0 len)
    (hl : bnd s 0 lo = some l) (hh : bnd s len hi = some h) (h1 : l ≤ h) (h2 : h ≤ len) : OpHolds P o s id [(r, .mrow ver e size xs)] (.ms r ver size (l0 + l) (h - l)) [] := by
  refine holds_read (fun p hp => by simp at hp; subst hp; simp) fun W0 g σ N w a hS hr hp => ?_
  have h3 := hr x (by simp [ho, Op.operands])
  have hlo : ∀ x, lo = some x → Rep g (aeval s x) (a.eval x) := fun x hx => hr x (by simp [ho, Op.operands, hx])
  have hhi : ∀ x, hi = some x → Rep g (aeval s x) (a.eval x) := fun x hx => hr x (by simp [ho, Op.operands, hx])
  rw [hx] at h3
  have hp' : σ r = .mrow ver e size xs := hp (r, .mrow ver e size xs) (by simp)
  obtain ⟨u, vs, hmr, hlen, hvl, hvr, hvs, hown⟩ := hS.mrowAt hp'
  obtain ⟨ie, hie, hsi⟩ := sizeIs_sound hs
  generalize hv : a.eval x = v at h3
  cases h3 with
  | ms _ _ _ _ _ ver' u' A c hm' hv' hlc hc hM =>
    rw [hmr] at hm'; cases hm'
    obtain ⟨A0, n0, c0, rfl, j1, j2, j3⟩ := hM rfl
    have hb := run_bounds (P := P) hl hh hlo hhi h1 (by omega : h ≤ c) true w
    refine ⟨.slice (if c = l then A else A.map (·.add (l * size))) (h - l) (c - l), ?_, .ms r ver size (l0 + l) (h - l) ver _ _ (c - l) hmr (Nat.le_refl _) (by omega) (by omega) fun _ => ⟨A0, n0, c0, rfl, ?_, fun hz => ?_, fun hz => ?_⟩⟩
    · simp only [execOp, ho, Sem.run_bind, Instr.sliceAt, run_underlying (sliceTy_sound ht), Result.andThen_ok, hv, Instr.slice, Option.map_none, hb, sizeOf, typeInfo, run_program, hie, Sem.run_pure, hsi]
    · have : l0 + len ≤ c0 := j1
      omega
    · have hl0 : l0 = 0 := by omega
      have hl' : l = 0 := by omega
      subst hl0 hl'
      obtain ⟨rfl, rfl⟩ := j2 rfl
      refine ⟨?_, by omega⟩
      split
      · rfl
      · cases A <;> simp [Addr.add]
    · obtain ⟨b, rfl, rfl⟩ := j3 (by omega)
      refine ⟨b, rfl, ?_⟩
      rw [if_neg (by omega)]
      simp [Addr.add_lit, Nat.add_mul]
end
end Go.Ab

/- Slices of what lies in a box, slices without spare places, copy, clear, bytes of a string, values of interface type. -/
namespace Go.Ab
open Go.RowKit

section
variable {P : Program} {o : Oper} {s : Slots} {id : Nat}

theorem run_bounds3 {a : Act} {g : Ghost} {len cap l h : Nat} {lo hi mx : Option Operand} (hl : bnd s 0 lo = some l) (hh : bnd s len hi = some h) (hm : bnd s cap mx = some h) (hx : mx.isSome = true) (hy : hi.isSome = true) (hr : ∀ x, lo = some x → Rep g (aeval s x) (a.eval x)) (hr' : ∀ x, hi = some x → Rep g (aeval s x) (a.eval x)) (hr'' : ∀ x, mx = some x → Rep g (aeval s x) (a.eval x))
    (h1 : l ≤ h) (h2 : h ≤ cap) (isSlice : Bool) (w : World) : (Instr.sliceBounds isSlice len cap (lo.map a.eval) (hi.map a.eval) (mx.map a.eval)).run P w = .ok (l, h, h) w := by
  rcases run_bnd hm hr'' with ⟨rfl, rfl⟩ | ⟨x2, k2, n2, rfl, he2, h02, rfl⟩
  · simp at hx
  · rcases run_bnd hh hr' with ⟨rfl, rfl⟩ | ⟨x, k, n, rfl, he, h0, hn⟩
    · simp at hy
    · rcases run_bnd hl hr with ⟨rfl, rfl⟩ | ⟨x', k', n', rfl, he', h0', rfl⟩
      · simp [Instr.sliceBounds, he, he2, run_sliceBound w k2 n2 cap _ h02 (by omega), hn, run_sliceBound w k n n2.toNat _ h0 (by omega)]
      · simp [Instr.sliceBounds, he, he', he2, run_sliceBound w k2 n2 cap _ h02 (by omega), hn, run_sliceBound w k n n2.toNat _ h0 (by omega), run_sliceBound w k' n' n2.toNat _ h0' (by omega)]

/-- s[l:h:h]. -/
theorem holds_slice_clip {t e : TypeId} {x m : Operand} {lo hi : Option Operand} {own : Option Nat} {xs : List AV} {l h size : Nat} (ho : o.op = .slice t x lo hi (some m)) (ht : sliceTy P t = some e) (hs : sizeIs P e size = true) (hx : AV.le (aeval s x) (.slice own xs))
    (hl : bnd s 0 lo = some l) (hh : bnd s 0 hi = some h) (hm : bnd s 0 (some m) = some h) (hy : hi.isSome = true) (h1 : l ≤ h) (h2 : h ≤ xs.length) (hsz : xs.all (fun y => y.sz == size) = true) : OpHolds P o s id [] (.clip ((xs.take h).drop l)) [] :=
  holds_pure fun g w a hr => by
    have h3 := hx _ _ (hr x (by simp [ho, Op.operands]))
    have hlo : ∀ x, lo = some x → Rep g (aeval s x) (a.eval x) := fun x hx => hr x (by simp [ho, Op.operands, hx])
    have hhi : ∀ x, hi = some x → Rep g (aeval s x) (a.eval x) := fun x hx => hr x (by simp [ho, Op.operands, hx])
    have hmx : ∀ x, some m = some x → Rep g (aeval s x) (a.eval x) := fun x hx => hr x (by simp [ho, Op.operands]; simp at hx; simp [hx])
    generalize hv : a.eval x = v at h3
    obtain ⟨ie, hie, hsi⟩ := sizeIs_sound hs
    cases h3 with
    | slice _ _ vs A c size' hvl hc hmm hvr hvs hcell hown =>
      have hvs' := sizes_of hvl hvr hsz
      have hhi' : hi = some (hi.get hy) := by simp
      have e0 : bnd s xs.length hi = some h := by rw [hhi'] at hh ⊢; exact hh
      have e1 : bnd s c (some m) = some h := hm
      have hb := run_bounds3 (P := P) hl e0 e1 rfl hy hlo hhi hmx h1 (by omega : h ≤ c) true w
      simp only [Option.map_some] at hb
      have hcell2 : h = 0 ∨ ∃ b o, A = some ⟨b, o, none⟩ ∧ ∀ (j : Nat) (u : Value), (flat (vs.take h))[j]? = some u → g.G b (o + j) = some u := by
        rcases hcell with h0 | ⟨b, o, hA, hG⟩
        · exact .inl (by omega)
        · refine .inr ⟨b, o, hA, fun j u hu => hG j u ?_⟩
          rw [flat_take vs size hvs', List.getElem?_take] at hu
          split at hu
          · exact hu
          · cases hu
      have hlen : (xs.take h).length = h := by rw [List.length_take]; omega
      have := Rep.sub (g := g) (xs := xs.take h) (vs := vs.take h) (A := A) (c := h) (size := size) (l := l) (h := h) (by simp [hvl]) (by omega) (by omega) (fun i x v hx hv => by
          rw [List.getElem?_take] at hx hv
          split at hx
          · rename_i hlt; rw [if_pos hlt] at hv; exact hvr _ x v hx hv
          · cases hx) (fun v hv => hvs' v (List.mem_of_mem_take hv)) (by rw [hlen]; exact hcell2) h1 (by omega)
      rw [List.take_take, Nat.min_self] at this
      refine ⟨_, ?_, .clip _ _ _ this⟩
      simp only [execOp, ho, Sem.run_bind, Instr.sliceAt, run_underlying (sliceTy_sound ht), Result.andThen_ok, hv, Instr.slice, Option.map_some, hb, sizeOf, typeInfo, run_program, hie, Sem.run_pure, hsi]

/-- What an address names: an array; or the array's own type, where a variable is sliced. -/
def ptrArr (P : Program) (t : TypeId) : Option (Nat × TypeId × Nat) :=
  match P.underlying t with
  | some (.pointer a) => match P.underlying a with
    | some (.array n e) => match P.info? e with
      | some i => some (n, e, i.size)
      | none => none
    | _ => none
  | some (.array n e) => match P.info? e with
    | some i => some (n, e, i.size)
    | none => none
  | _ => none

theorem ptrArr_sound {t e : TypeId} {n size : Nat} (h : ptrArr P t = some (n, e, size)) : ((∃ a, P.underlying t = some (.pointer a) ∧ P.underlying a = some (.array n e)) ∨ P.underlying t = some (.array n e)) ∧ sizeIs P e size = true := by
  unfold ptrArr at h
  split at h
  · rename_i a ha
    split at h
    · rename_i n' e' hb
      split at h
      · rename_i i hi; cases h; exact ⟨.inl ⟨a, ha, hb⟩, by simp [sizeIs, hi]⟩
      · cases h
    · cases h
  · rename_i n' e' hb
    split at h
    · rename_i i hi; cases h; exact ⟨.inr hb, by simp [sizeIs, hi]⟩
    · cases h
  · cases h

theorem run_slice_arr {t e : TypeId} {n size b off l h : Nat} (ht : ptrArr P t = some (n, e, size)) {lo hi : Option Value} {w : World} (hb : (Instr.sliceBounds false n n lo hi none).run P w = .ok (l, h, n) w) :
    (Instr.sliceAt t (.pointer (some ⟨b, off, none⟩)) lo hi none).run P w = .ok (.slice (some (if n = l then ⟨b, off, none⟩ else ⟨b, off + l * size, none⟩)) (h - l) (n - l)) w := by
  obtain ⟨h1, h3⟩ := ptrArr_sound ht
  obtain ⟨ie, hie, hsi⟩ := sizeIs_sound h3
  rcases h1 with ⟨a, h1, h2⟩ | h1
  · simp [Instr.sliceAt, Instr.slice, run_underlying h1, run_underlying h2, asAddr, hb, sizeOf, typeInfo, hie, hsi, Addr.add_lit]
  · simp [Instr.sliceAt, run_underlying h1, Instr.sureAddr, hb, sizeOf, typeInfo, hie, hsi, Addr.add_lit]

/-- A slice of an array in a box, to be written through. -/
theorem holds_slice_box {t e : TypeId} {x : Operand} {lo hi : Option Operand} {i off n size l h : Nat} {path : List Nat} (ho : o.op = .slice t x lo hi none) (ht : ptrArr P t = some (n, e, size)) (hx : aeval s x = .ptr i path off)
    (hl : bnd s 0 lo = some l) (hh : bnd s n hi = some h) (h1 : l ≤ h) (h2 : h ≤ n) (h3 : l = 0 ∨ l < n) (h4 : n ≤ maxLen) : OpHolds P o s id [] (.bs i path l (off + l * size) (h - l)) [] :=
  holds_pure fun g w a hr => by
    have hx' := hr x (by simp [ho, Op.operands])
    have hlo : ∀ x, lo = some x → Rep g (aeval s x) (a.eval x) := fun x hx => hr x (by simp [ho, Op.operands, hx])
    have hhi : ∀ x, hi = some x → Rep g (aeval s x) (a.eval x) := fun x hx => hr x (by simp [ho, Op.operands, hx])
    rw [hx] at hx'
    generalize hv : a.eval x = v at hx'
    cases hx' with
    | ptr _ _ _ b hb =>
      have hbd := run_bounds (P := P) hl hh hlo hhi h1 h2 false w
      have hrun := run_slice_arr (P := P) (b := b) (off := off) ht hbd
      refine ⟨.slice (some ⟨b, off + l * size, none⟩) (h - l) (n - l), ?_, .bs i path l _ _ b (n - l) hb (by omega) (by omega)⟩
      have e1 : (if n = l then (⟨b, off, none⟩ : Addr) else ⟨b, off + l * size, none⟩) = ⟨b, off + l * size, none⟩ := by
        rcases h3 with rfl | h3
        · split <;> simp
        · rw [if_neg (by omega)]
      rw [e1] at hrun
      simp only [execOp, ho, Sem.run_bind, hv, Option.map_none, hrun, Result.andThen_ok, Sem.run_pure]

theorem arr_part {g : Ghost} {ys : List AV} {vs : List Value} {b off size l h c : Nat} (hvl : vs.length = ys.length) (hvr : ∀ (i : Nat) (x : AV) (v : Value), ys[i]? = some x → vs[i]? = some v → Rep g x v) (hvs : ∀ v ∈ vs, v.cells.size = size)
    (hG : ∀ (j : Nat) (u : Value), (flat vs)[j]? = some u → g.G b (off + j) = some u) (h1 : l ≤ h) (h2 : h ≤ ys.length) (hc : h - l ≤ c) (hm : c ≤ maxLen) (A : Addr) (hA : h - l = 0 ∨ A = ⟨b, off + l * size, none⟩) :
    Rep g (.slice none ((ys.take h).drop l)) (.slice (some A) (h - l) c) := by
  have e : ((ys.take h).drop l).length = h - l := by simp; omega
  have := Rep.slice (g := g) none ((ys.take h).drop l) ((vs.take h).drop l) (some A) c size (by simp [hvl]) (by rw [e]; exact hc) hm (fun i x v hx hv => by
      rw [List.getElem?_drop, List.getElem?_take] at hx hv
      split at hx
      · rename_i hlt; rw [if_pos hlt] at hv; exact hvr _ x v hx hv
      · cases hx) (fun v hv => hvs v (List.mem_of_mem_take (List.mem_of_mem_drop hv))) (by
      rw [e]
      rcases hA with hA | rfl
      · exact .inl hA
      · refine .inr ⟨b, _, rfl, fun j u hu => ?_⟩
        rw [flat_drop _ size (fun v hv => hvs v (List.mem_of_mem_take hv)), flat_take _ size hvs, List.getElem?_drop, List.getElem?_take] at hu
        split at hu
        · rw [Nat.add_assoc]; exact hG _ _ hu
        · cases hu) (fun id hid => by cases hid)
  rw [e] at this
  exact this

/-- A slice of an array that lies in a box which is written no more. -/
theorem holds_slice_fbox {t e : TypeId} {x : Operand} {lo hi : Option Operand} {i off n size l h : Nat} {path : List Nat} {bt : TypeId} {c : AV} {ys : List AV} (frozen : Bool) (ho : o.op = .slice t x lo hi none) (ht : ptrArr P t = some (n, e, size)) (hx : aeval s x = .ptr i path off)
    (hy : c.get path = some (.agg ys)) (hoff : c.offs path = off) (hn : ys.length = n) (hsz : ys.all (fun y => y.sz == size) = true) (hl : bnd s 0 lo = some l) (hh : bnd s n hi = some h) (h1 : l ≤ h) (h2 : h ≤ n) (h4 : n ≤ maxLen) :
    OpHolds P o s id [(i, if frozen then .fbox bt c else .box bt c)] (.slice none ((ys.take h).drop l)) (if frozen then [] else [(i, .fbox bt c)]) := by
  refine ⟨fun p hp => by simp at hp; subst hp; cases frozen <;> simp, fun q hq => .inr ⟨_, List.mem_cons_self .., by cases frozen <;> simp at hq; subst hq; rfl⟩, fun W0 g σ N w a hS hr _ _ hp => ?_⟩
  have hx' := hr x (by simp [ho, Op.operands])
  have hlo : ∀ x, lo = some x → Rep g (aeval s x) (a.eval x) := fun x hx => hr x (by simp [ho, Op.operands, hx])
  have hhi : ∀ x, hi = some x → Rep g (aeval s x) (a.eval x) := fun x hx => hr x (by simp [ho, Op.operands, hx])
  rw [hx] at hx'
  generalize hv : a.eval x = v at hx'
  cases hx' with
  | ptr _ _ _ b hb =>
    have hbd := run_bounds (P := P) hl hh hlo hhi h1 (by omega) false w
    have hrun := run_slice_arr (P := P) (b := b) (off := off) ht hbd
    have hexec : (execOp a.eval o).run P w = .ok (.value (.slice (some (if n = l then ⟨b, off, none⟩ else ⟨b, off + l * size, none⟩)) (h - l) (n - l))) w := by
      simp only [execOp, ho, Sem.run_bind, hv, Option.map_none, hrun, Result.andThen_ok, Sem.run_pure]
    unfold runsTo
    rw [hexec]
    have fin : ∀ (g' : Ghost) (v : Value), Rep g' c v → (∀ (o : Nat), g'.G b o = v.cells[o]?) → Rep g' (.slice none ((ys.take h).drop l)) (.slice (some (if n = l then ⟨b, off, none⟩ else ⟨b, off + l * size, none⟩)) (h - l) (n - l)) := by
      intro g' v hrep hG
      obtain ⟨u, hu, hub, huc⟩ := hrep.get hy
      cases hu with
      | agg _ vs hvl hvr =>
        refine arr_part (b := b) (off := off) hvl hvr (sizes_of hvl hvr hsz) (fun j q hq => ?_) h1 (by omega) (by omega) (by omega) _ ?_
        · rw [hG, ← Array.getElem?_toList, ← hoff]
          exact huc j q (by simpa [Value.cells] using hq)
        · by_cases hnl : n = l
          · exact .inl (by omega)
          · exact .inr (by rw [if_neg hnl])
    cases frozen with
    | true =>
      obtain ⟨b', v', hb', _, hrep, _, hG⟩ := hS.fbox i bt c (hp (i, .fbox bt c) (by simp))
      rw [hb] at hb'; cases hb'
      exact ⟨g, g.le_refl, hS, fin g v' hrep hG⟩
    | false =>
      obtain ⟨g', hle, hS', v', hrep, hG⟩ := hS.freeze (hp (i, .box bt c) (by simp)) hb
      exact ⟨g', hle, hS', fin g' v' hrep hG⟩

theorem holds_slice_view {t e : TypeId} {x : Operand} {lo hi : Option Operand} {n size l h : Nat} {ys : List AV} (ho : o.op = .slice t x lo hi none) (ht : ptrArr P t = some (n, e, size)) (hx : aeval s x = .view (.agg ys))
    (hn : ys.length = n) (hsz : ys.all (fun y => y.sz == size) = true) (hl : bnd s 0 lo = some l) (hh : bnd s n hi = some h) (h1 : l ≤ h) (h2 : h ≤ n) (h4 : n ≤ maxLen) :
    OpHolds P o s id [] (.slice none ((ys.take h).drop l)) [] :=
  holds_pure fun g w a hr => by
    have hx' := hr x (by simp [ho, Op.operands])
    have hlo : ∀ x, lo = some x → Rep g (aeval s x) (a.eval x) := fun x hx => hr x (by simp [ho, Op.operands, hx])
    have hhi : ∀ x, hi = some x → Rep g (aeval s x) (a.eval x) := fun x hx => hr x (by simp [ho, Op.operands, hx])
    rw [hx] at hx'
    generalize hv : a.eval x = v at hx'
    cases hx' with
    | view _ u b off hu hG =>
      have hbd := run_bounds (P := P) hl hh hlo hhi h1 h2 false w
      have hrun := run_slice_arr (P := P) (b := b) (off := off) ht hbd
      refine ⟨.slice (some (if n = l then ⟨b, off, none⟩ else ⟨b, off + l * size, none⟩)) (h - l) (n - l), by simp only [execOp, ho, Sem.run_bind, hv, Option.map_none, hrun, Result.andThen_ok, Sem.run_pure], ?_⟩
      cases hu with
      | agg _ vs hvl hvr =>
        refine arr_part (b := b) (off := off) hvl hvr (sizes_of hvl hvr hsz) (fun j q hq => hG j q (by simpa [Value.cells] using hq)) h1 (by omega) (by omega) (by omega) _ ?_
        by_cases hnl : n = l
        · exact .inl (by omega)
        · exact .inr (by rw [if_neg hnl])

/-- The address of an element of a slice of a box. -/
theorem holds_indexAddr_bs {t e : TypeId} {size r lo off len : Nat} {path : List Nat} {x i : Operand} {k : IntKind} {n : Int} (ho : o.op = .indexAddr t x i) (ht : sliceTy P t = some e) (hs : sizeIs P e size = true) (hx : aeval s x = .bs r path lo off len) (hi : aeval s i = .lit (.int k n)) (h0 : 0 ≤ n) (hn : n.toNat < len) :
    OpHolds P o s id [] (.ptr r (path ++ [lo + n.toNat]) (off + n.toNat * size)) [] :=
  holds_pure fun g w a hr => by
    have h1 := hr x (by simp [ho, Op.operands])
    have h2 := hr i (by simp [ho, Op.operands])
    rw [hx] at h1
    rw [hi] at h2
    have e2 := rep_lit_inv h2
    obtain ⟨ie, hie, hsi⟩ := sizeIs_sound hs
    generalize hv : a.eval x = v at h1
    cases h1 with
    | bs _ _ _ _ _ b c hb hl hc =>
      obtain ⟨m, rfl⟩ := Int.eq_ofNat_of_zero_le h0
      simp only [Int.toNat_natCast] at hn ⊢
      refine ⟨.pointer (some ⟨b, off + m * size, none⟩), ?_, .ptr _ _ _ b hb⟩
      simp [execOp, ho, hv, e2, Instr.indexAt, asIntOf, run_underlying (sliceTy_sound ht), sizeOf, typeInfo, hie, hsi, Addr.add_lit]
      omega

theorem holds_len_bs {t e : TypeId} {x : Operand} {r lo off len : Nat} {path : List Nat} (ho : o.op = .call { callee := .builtin .len, args := #[x], argTypes := #[t] }) (ht : sliceTy P t = some e) (hx : aeval s x = .bs r path lo off len) : OpHolds P o s id [] (.lit (.int .i64 len)) [] :=
  holds_pure fun g w a hr => by
    have h1 := hr x (by simp [ho, Op.operands, Call.operands])
    rw [hx] at h1
    obtain ⟨cs, he⟩ := execOp_builtin (P := P) (a := a) ho w
    generalize hv : a.eval x = v at h1
    cases h1
    refine ⟨_, ?_, .lit _ rfl⟩
    rw [he]
    simp [builtin, Builtin.len_, hv, run_underlying (sliceTy_sound ht), goInt]
end
end Go.Ab

/- copy, clear; the bytes of a string; values of interface type. -/
namespace Go.Ab
open Go.RowKit

section
variable {P : Program} {o : Oper} {s : Slots} {id : Nat}

/-- What a copy reads: the first elements of a slice, or of a string. -/
def copySrc : AV → Option (List AV)
  | .lit (.string b) => some (b.data.toList.map byteAV)
  | x => x.elems

theorem byteVals_rep (g : Ghost) (l : List UInt8) : ∀ (i : Nat) (x : AV) (v : Value), (l.map byteAV)[i]? = some x → (l.map fun b => Value.int .u8 (b.toNat : Int))[i]? = some v → Rep g x v := by
  intro i x v hx hv
  rw [List.getElem?_map] at hx hv
  cases hl : l[i]? with
  | none => rw [hl] at hx; cases hx
  | some b => rw [hl] at hx hv; cases hx; cases hv; exact .lit _ rfl

/-- A source, as values: its length, and its first elements' cells. -/
theorem copySrc_vals {W0 : World} {g : Ghost} {σ : Nat → Ent} {n : Nat} {w : World} (hS : Sim W0 g σ n w) {size : Nat} {Y : AV} {y : Value} {ys : List AV} (hY : copySrc Y = some ys) (hry : Rep g Y y) (hsy : ys.all (fun x => x.sz == size) = true) :
    (Builtin.lenOf y).run P w = .ok ys.length w ∧ ∃ us : List Value, us.length = ys.length ∧ (∀ (i : Nat) (x : AV) (v : Value), ys[i]? = some x → us[i]? = some v → Rep g x v) ∧ (∀ v ∈ us, v.cells.size = size) ∧
      ∀ m, m ≤ ys.length → (Builtin.firstCells size m y).run P w = .ok (flat (us.take m)).toArray w := by
  by_cases hstr : ∃ b, Y = .lit (.string b)
  · obtain ⟨b, rfl⟩ := hstr
    simp only [copySrc, Option.some.injEq] at hY
    subst hY
    have e := rep_lit_inv hry
    subst e
    have hus : ∀ v ∈ (b.data.toList.map fun b => Value.int .u8 (b.toNat : Int)), v.cells.size = 1 := fun v hv => by obtain ⟨b, _, rfl⟩ := List.mem_map.1 hv; rfl
    refine ⟨by simp [Builtin.lenOf], b.data.toList.map fun b => Value.int .u8 (b.toNat : Int), by simp, byteVals_rep g _, fun v hv => ?_, fun m hm => ?_⟩
    · obtain ⟨i, hi⟩ := List.getElem?_of_mem hv
      have hl : i < b.data.toList.length := by simpa using (List.getElem?_eq_some_iff.1 hi).1
      have := List.all_eq_true.1 hsy (byteAV (b.data.toList[i])) (List.mem_map.2 ⟨_, List.getElem_mem hl, rfl⟩)
      rw [hus v hv]
      simpa [byteAV_sz] using this
    · rw [flat_lits _ fun v hv => by obtain ⟨b, _, rfl⟩ := List.mem_map.1 (List.mem_of_mem_take hv); rfl]
      have hm' : m ≤ b.size := by simpa using hm
      have : (b.extract 0 m).data.toList = b.data.toList.take m := by
        simp [ByteArray.extract, ByteArray.copySlice]
      simp only [Builtin.firstCells, Sem.run_pure]
      congr 1
      apply Array.ext'
      simp [this, List.map_take]
  · have hY' : Y.elems = some ys := by
      unfold copySrc at hY
      split at hY
      · rename_i b; exact absurd ⟨b, rfl⟩ hstr
      · exact hY
    obtain ⟨A, m0, c, us, rfl, rfl, hul, hur, hus, huc⟩ := elems_vals hY' hry hsy
    refine ⟨by simp [Builtin.lenOf], us, hul, hur, hus, fun m hm => ?_⟩
    have hfl : (flat (us.take m)).length = m * size := by rw [flat_length _ size (fun v hv => hus v (List.mem_of_mem_take hv)), List.length_take]; congr 1; omega
    rcases huc with h0 | ⟨b, off, rfl, huc⟩
    · have hm0 : m = 0 := by omega
      subst hm0
      cases A with
      | none => simp [Builtin.firstCells, flat]
      | some ad => simp [Builtin.firstCells, flat, loadCells, loadCellsFrom]
    · have := run_firstCells_some (P := P) w size m ⟨b, off, none⟩ ys.length c (flat (us.take m)) hfl fun j v hv => by
        rw [Addr.add_lit]
        refine hS.imm _ _ _ (huc j v ?_)
        rw [flat_take us size hus, List.getElem?_take] at hv
        split at hv
        · exact hv
        · cases hv
      exact this

/-- Elements of a row, some of them others. -/
theorem spliced {g : Ghost} {xs ys : List AV} {vs us : List Value} {size lo m : Nat} (hvl : vs.length = xs.length) (hul : us.length = ys.length) (hvr : ∀ (i : Nat) (x : AV) (v : Value), xs[i]? = some x → vs[i]? = some v → Rep g x v)
    (hur : ∀ (i : Nat) (x : AV) (v : Value), ys[i]? = some x → us[i]? = some v → Rep g x v) (hvs : ∀ v ∈ vs, v.cells.size = size) (hus : ∀ v ∈ us, v.cells.size = size) (h1 : lo + m ≤ xs.length) (h2 : m ≤ ys.length) :
    (vs.take lo ++ us.take m ++ vs.drop (lo + m)).length = (xs.take lo ++ ys.take m ++ xs.drop (lo + m)).length ∧ (xs.take lo ++ ys.take m ++ xs.drop (lo + m)).length = xs.length ∧
    (∀ (i : Nat) (x : AV) (v : Value), (xs.take lo ++ ys.take m ++ xs.drop (lo + m))[i]? = some x → (vs.take lo ++ us.take m ++ vs.drop (lo + m))[i]? = some v → Rep g x v) ∧ (∀ v ∈ vs.take lo ++ us.take m ++ vs.drop (lo + m), v.cells.size = size) ∧
    flat (vs.take lo ++ us.take m ++ vs.drop (lo + m)) = (flat vs).take (lo * size) ++ flat (us.take m) ++ (flat vs).drop (lo * size + (flat (us.take m)).length) := by
  have a1 : (xs.take lo).length = lo := by rw [List.length_take]; omega
  have a2 : (vs.take lo).length = lo := by rw [List.length_take]; omega
  have a3 : (ys.take m).length = m := by rw [List.length_take]; omega
  have a4 : (us.take m).length = m := by rw [List.length_take]; omega
  refine ⟨by simp; omega, by simp; omega, fun i x v hx hv => ?_, fun v hv => ?_, ?_⟩
  · by_cases hi : i < lo
    · rw [List.getElem?_append_left (by simp; omega), List.getElem?_append_left (by omega), List.getElem?_take, if_pos hi] at hx
      rw [List.getElem?_append_left (by simp; omega), List.getElem?_append_left (by omega), List.getElem?_take, if_pos hi] at hv
      exact hvr _ x v hx hv
    · by_cases hj : i < lo + m
      · rw [List.getElem?_append_left (by simp; omega), List.getElem?_append_right (by omega), a1, List.getElem?_take, if_pos (by omega)] at hx
        rw [List.getElem?_append_left (by simp; omega), List.getElem?_append_right (by omega), a2, List.getElem?_take, if_pos (by omega)] at hv
        exact hur _ x v hx hv
      · have e1 : (xs.take lo ++ ys.take m).length = lo + m := by simp [a1, a3]
        have e2 : (vs.take lo ++ us.take m).length = lo + m := by simp [a2, a4]
        rw [List.getElem?_append_right (by omega), e1, List.getElem?_drop] at hx
        rw [List.getElem?_append_right (by omega), e2, List.getElem?_drop] at hv
        exact hvr _ x v hx hv
  · rcases List.mem_append.1 hv with hv | hv
    · rcases List.mem_append.1 hv with hv | hv
      · exact hvs v (List.mem_of_mem_take hv)
      · exact hus v (List.mem_of_mem_take hv)
    · exact hvs v (List.mem_of_mem_drop hv)
  · have hf : (flat (us.take m)).length = m * size := by rw [flat_length _ size (fun v hv => hus v (List.mem_of_mem_take hv)), a4]
    rw [flat_append, flat_append, flat_take _ size hvs, flat_drop _ size hvs, hf, Nat.add_mul]

theorem run_copy {w w' : World} {dT sT ty elem : TypeId} {size n m len c : Nat} {A : Option Addr} {y : Value} {news : List Value} (hu : P.underlying dT = some (.slice elem)) (hs : sizeIs P elem size = true)
    (h1 : (Builtin.lenOf y).run P w = .ok n w) (hm : m = Nat.min n len) (h2 : (Builtin.firstCells size m y).run P w = .ok news.toArray w) (h3 : (match A with | some a => storeCells a news 0 | none => pure ()).run P w = .ok () w') :
    (Builtin.copy_ #[dT, sT] ty #[.slice A len c, y]).run P w = .ok (.int .i64 m) w' := by
  obtain ⟨ie, hie, hsi⟩ := sizeIs_sound hs
  subst hm
  cases A with
  | none =>
    simp at h3
    subst h3
    simp [Builtin.copy_, run_underlying hu, h1, sizeOf, typeInfo, hie, hsi, h2, goInt]
  | some a =>
    simp at h3
    simp [Builtin.copy_, run_underlying hu, h1, sizeOf, typeInfo, hie, hsi, h2, h3, goInt]

/-- copy into a row that may be written. -/
theorem holds_copy_ms {t ts e : TypeId} {size r ver lo len m : Nat} {x y : Operand} {Y : AV} {xs ys : List AV} (ho : o.op = .call { callee := .builtin .copy, args := #[x, y], argTypes := #[t, ts] }) (ht : sliceTy P t = some e) (hs : sizeIs P e size = true)
    (hx : aeval s x = .ms r ver size lo len) (hlen : lo + len ≤ xs.length) (hy : aeval s y = Y) (hY : copySrc Y = some ys) (hsy : ys.all (fun x => x.sz == size && x.cell) = true) (hm : m = Nat.min ys.length len) :
    OpHolds P o s id [(r, .mrow ver e size xs)] (.lit (.int .i64 m)) [(r, .mrow ver e size (xs.take lo ++ ys.take m ++ xs.drop (lo + m)))] := by
  refine ⟨fun p hp => by simp at hp; subst hp; simp, fun q hq => .inr ⟨(r, .mrow ver e size xs), by simp, by simp at hq; subst hq; rfl⟩, fun W0 g σ n w a hS hr _ _ hp => ?_⟩
  have h1 := hr x (by simp [ho, Op.operands, Call.operands])
  have h2 := hr y (by simp [ho, Op.operands, Call.operands])
  rw [hx] at h1
  rw [hy] at h2
  have hp' : σ r = .mrow ver e size xs := hp (r, .mrow ver e size xs) (by simp)
  obtain ⟨cs, he⟩ := execOp_builtin (P := P) (a := a) ho w
  obtain ⟨u, vs, hmr, hsl, hvl, hvr, hvs, hown⟩ := hS.mrowAt hp'
  have hsy1 : ys.all (fun x => x.sz == size) = true := by
    rw [List.all_eq_true] at hsy ⊢
    intro x hx
    have := hsy x hx
    simp only [Bool.and_eq_true] at this
    exact this.1
  generalize hv : a.eval x = v at h1
  generalize hw : a.eval y = yv at h2
  obtain ⟨k1, us, k2, k3, k4, k5⟩ := copySrc_vals (P := P) hS hY h2 hsy1
  have hmy : m ≤ ys.length := by rw [hm]; exact Nat.min_le_left _ _
  have hml : m ≤ len := by rw [hm]; exact Nat.min_le_right _ _
  obtain ⟨s1, s2, s3, s4, s5⟩ := spliced (lo := lo) (m := m) hvl k2 hvr k3 hvs k4 (by omega) hmy
  have hone : ∀ q ∈ flat (us.take m), q.oneCell' = true := by
    intro q hq
    obtain ⟨v, hv, hq⟩ := mem_flat.1 hq
    obtain ⟨j, hj⟩ := List.getElem?_of_mem (List.mem_of_mem_take hv)
    have hlt : j < ys.length := by rw [← k2]; exact (List.getElem?_eq_some_iff.1 hj).1
    have hc := List.all_eq_true.1 hsy ys[j] (List.getElem_mem hlt)
    simp only [Bool.and_eq_true] at hc
    exact (k3 j _ v (List.getElem?_eq_getElem hlt) hj).cell_ok hc.2 q hq
  have hfl : (flat (us.take m)).length = m * size := by rw [flat_length _ size (fun v hv => k4 v (List.mem_of_mem_take hv)), List.length_take]; congr 1; omega
  cases h1 with
  | ms _ _ _ _ _ ver' u' A c hm' hv' hl hc h =>
    rw [hmr] at hm'; cases hm'
    obtain ⟨A0, n0, c0, rfl, j1, j2, j3⟩ := h rfl
    simp only [slen] at hsl
    subst hsl
    have store : ∃ w', (match A with | some a => storeCells a (flat (us.take m)) 0 | none => pure ()).run P w = .ok () w' ∧ ∃ g', g.le g' ∧ Sim W0 g' (upd σ r (.mrow ver e size (xs.take lo ++ ys.take m ++ xs.drop (lo + m)))) n w' := by
      by_cases hm0 : m = 0
      · refine ⟨w, ?_, g, g.le_refl, ?_⟩
        · subst hm0
          cases A <;> simp [flat, storeCells]
        · have e1 : xs.take lo ++ ys.take m ++ xs.drop (lo + m) = xs := by rw [hm0]; simp
          rw [e1]
          have e2 : upd σ r (.mrow ver e size xs) = σ := by
            funext i
            by_cases hi : i = r
            · subst hi; rw [upd_same, hp']
            · rw [upd_ne _ _ _ _ hi]
          rw [e2]; exact hS
      · obtain ⟨b, rfl, rfl⟩ := j3 (by omega)
        obtain ⟨w', hst, l1, l2, l3, l4, l5, l6⟩ := row_written (P := P) (off := lo * size) (news := flat (us.take m)) hown (by
          rw [hfl, hown.1, ← Nat.add_mul]; exact Nat.mul_le_mul_right _ (by omega)) hone
        rw [← s5] at l1
        obtain ⟨g', hle, hS', _, _⟩ := hS.turnM (ver' := ver) (vs' := vs.take lo ++ us.take m ++ vs.drop (lo + m)) hp' hmr (.inl ⟨rfl, rfl⟩) (by rw [s2]; exact l1) (by simp only [slen]; rw [s2]) s1 s3 s4 l2 l3 l4 l5 (.inl rfl) (fun j hj _ => l6 j (fun e => hj (by rw [e]; rfl)))
        exact ⟨w', hst, g', hle, hS'⟩
    obtain ⟨w', hst, g', hle, hS'⟩ := store
    have hrun := run_copy (P := P) (ty := o.type) (sT := ts) (c := c) (sliceTy_sound ht) hs k1 hm (k5 m hmy) hst
    unfold runsTo
    have hexec : (execOp a.eval o).run P w = .ok (.value (.int .i64 m)) w' := by
      rw [he]
      simp [builtin, hv, hw, hrun]
    rw [hexec]
    exact ⟨g', hle, hS', .lit _ rfl⟩

theorem list_splice2 {α : Type} (L N T : List α) (q a : Nat) (hT : T = (L.drop q).take (T.length)) (hq : q + T.length ≤ L.length) (hab : a + N.length ≤ T.length) :
    L.take q ++ (T.take a ++ N ++ T.drop (a + N.length)) ++ L.drop (q + T.length) = L.take (q + a) ++ N ++ L.drop (q + a + N.length) := by
  apply List.ext_getElem?
  intro j
  have lq : (L.take q).length = q := by rw [List.length_take]; omega
  have la : (T.take a).length = a := by rw [List.length_take]; omega
  have lqa : (L.take (q + a)).length = q + a := by rw [List.length_take]; omega
  have lm : (T.take a ++ N ++ T.drop (a + N.length)).length = T.length := by simp; omega
  have hTj : ∀ i, i < T.length → T[i]? = L[q + i]? := fun i hi => by
    rw [hT, List.getElem?_take, if_pos hi, List.getElem?_drop]
  by_cases h1 : j < q
  · rw [List.getElem?_append_left (by simp; omega), List.getElem?_append_left (by omega), List.getElem?_append_left (by simp; omega), List.getElem?_append_left (by omega), List.getElem?_take, List.getElem?_take, if_pos h1, if_pos (by omega)]
  · by_cases h2 : j < q + a
    · rw [List.getElem?_append_left (by simp only [List.length_append, lq] at *; omega), List.getElem?_append_right (by omega), List.getElem?_append_left (by simp; omega), List.getElem?_append_left (by omega), List.getElem?_take, if_pos (by omega), lq, hTj _ (by omega),
        List.getElem?_append_left (by simp; omega), List.getElem?_append_left (by omega), List.getElem?_take, if_pos h2]
      congr 1; omega
    · by_cases h3 : j < q + a + N.length
      · rw [List.getElem?_append_left (by simp only [List.length_append, lq] at *; omega), List.getElem?_append_right (by omega), lq, List.getElem?_append_left (by simp; omega), List.getElem?_append_right (by omega), la,
          List.getElem?_append_left (by simp; omega), List.getElem?_append_right (by omega), lqa]
        congr 1; omega
      · have e1 : (T.take a ++ N).length = a + N.length := by simp; omega
        have e2 : (L.take (q + a) ++ N).length = q + a + N.length := by simp; omega
        rw [List.getElem?_append_right (l₁ := L.take (q + a) ++ N) (by omega), e2, List.getElem?_drop]
        by_cases h4 : j < q + T.length
        · rw [List.getElem?_append_left (by simp only [List.length_append, lq] at *; omega), List.getElem?_append_right (by omega), lq, List.getElem?_append_right (by omega), e1, List.getElem?_drop, hTj _ (by omega)]
          congr 1; omega
        · have e3 : (L.take q ++ (T.take a ++ N ++ T.drop (a + N.length))).length = q + T.length := by simp only [List.length_append] at lm ⊢; omega
          rw [List.getElem?_append_right (by omega), e3, List.getElem?_drop]
          congr 1; omega

/-- copy into an array that lies in a box. -/
theorem holds_copy_bs {t ts e : TypeId} {size r lo off len m : Nat} {path : List Nat} {x y : Operand} {Y : AV} {bt : TypeId} {c : AV} {xs ys : List AV} (ho : o.op = .call { callee := .builtin .copy, args := #[x, y], argTypes := #[t, ts] }) (ht : sliceTy P t = some e) (hs : sizeIs P e size = true)
    (hx : aeval s x = .bs r path lo off len) (hc0 : c.get path = some (.agg xs)) (hoff : c.offs path + lo * size = off) (hsx : xs.all (fun x => x.sz == size) = true) (hlen : lo + len ≤ xs.length) (hy : aeval s y = Y) (hY : copySrc Y = some ys) (hsy : ys.all (fun x => x.sz == size && x.cell) = true) (hm : m = Nat.min ys.length len) :
    OpHolds P o s id [(r, .box bt c)] (.lit (.int .i64 m)) [(r, .box bt (c.put path (.agg (xs.take lo ++ ys.take m ++ xs.drop (lo + m)))))] := by
  refine ⟨fun p hp => by simp at hp; subst hp; simp, fun q hq => .inr ⟨(r, .box bt c), by simp, by simp at hq; subst hq; rfl⟩, fun W0 g σ n w a hS hr _ _ hp => ?_⟩
  have h1 := hr x (by simp [ho, Op.operands, Call.operands])
  have h2 := hr y (by simp [ho, Op.operands, Call.operands])
  rw [hx] at h1
  rw [hy] at h2
  have hp' : σ r = .box bt c := hp (r, .box bt c) (by simp)
  obtain ⟨cs, he⟩ := execOp_builtin (P := P) (a := a) ho w
  obtain ⟨b, v0, hloc, _, hrep, hheap, _⟩ := hS.box r bt c hp'
  obtain ⟨u0, hu0, hub, huc⟩ := hrep.get hc0
  have hsy1 : ys.all (fun x => x.sz == size) = true := by
    rw [List.all_eq_true] at hsy ⊢
    intro x hx
    have := hsy x hx
    simp only [Bool.and_eq_true] at this
    exact this.1
  generalize hv : a.eval x = v at h1
  generalize hw : a.eval y = yv at h2
  obtain ⟨k1, us, k2, k3, k4, k5⟩ := copySrc_vals (P := P) hS hY h2 hsy1
  have hmy : m ≤ ys.length := by rw [hm]; exact Nat.min_le_left _ _
  have hml : m ≤ len := by rw [hm]; exact Nat.min_le_right _ _
  have hone : ∀ q ∈ flat (us.take m), q.oneCell' = true := by
    intro q hq
    obtain ⟨v, hv, hq⟩ := mem_flat.1 hq
    obtain ⟨j, hj⟩ := List.getElem?_of_mem (List.mem_of_mem_take hv)
    have hlt : j < ys.length := by rw [← k2]; exact (List.getElem?_eq_some_iff.1 hj).1
    have hc := List.all_eq_true.1 hsy ys[j] (List.getElem_mem hlt)
    simp only [Bool.and_eq_true] at hc
    exact (k3 j _ v (List.getElem?_eq_getElem hlt) hj).cell_ok hc.2 q hq
  have hfl : (flat (us.take m)).length = m * size := by rw [flat_length _ size (fun v hv => k4 v (List.mem_of_mem_take hv)), List.length_take]; congr 1; omega
  cases h1 with
  | bs _ _ _ _ _ b' cap hb' hl hc =>
    rw [hloc] at hb'; cases hb'
    cases hu0 with
    | agg _ vs hvl hvr =>
      have hvs := sizes_of hvl hvr hsx
      obtain ⟨s1, s2, s3, s4, s5⟩ := spliced (lo := lo) (m := m) hvl k2 hvr k3 hvs k4 (by omega) hmy
      have hz : Rep g (.agg (xs.take lo ++ ys.take m ++ xs.drop (lo + m))) (.agg (flat (vs.take lo ++ us.take m ++ vs.drop (lo + m))).toArray) := .agg _ _ s1 s3
      have hflv : (flat vs).length = xs.length * size := by rw [flat_length vs size hvs, hvl]
      have hzl : (flat (vs.take lo ++ us.take m ++ vs.drop (lo + m))).length = (flat vs).length := by rw [flat_length _ size s4, hflv, s1, s2]
      have hsz : (AV.agg xs).sz = (AV.agg (xs.take lo ++ ys.take m ++ xs.drop (lo + m))).sz := by
        have e1 := (Rep.agg (g := g) xs vs hvl hvr).size
        have e2 := hz.size
        rw [← e1, ← e2]
        simp only [Value.cells, List.size_toArray]
        exact hzl.symm
      obtain ⟨v', hv', hvc⟩ := hrep.put hc0 hz hsz
      have hmulle : (lo + m) * size ≤ xs.length * size := Nat.mul_le_mul_right _ (by omega)
      have hub' : c.offs path + (flat vs).length ≤ v0.cells.toList.length := by
        rw [cells_agg, List.size_toArray] at hub
        rw [Array.length_toList]; exact hub
      have hT : flat vs = (v0.cells.toList.drop (c.offs path)).take (flat vs).length := by
        apply List.ext_getElem?
        intro j
        rw [List.getElem?_take, List.getElem?_drop]
        split
        · rename_i hj
          rw [List.getElem?_eq_getElem hj]
          exact (huc j _ (by rw [cells_agg, List.toList_toArray, List.getElem?_eq_getElem hj])).symm
        · rename_i hj
          rw [List.getElem?_eq_none (by omega)]
      have hnew : v'.cells.toList = v0.cells.toList.take off ++ flat (us.take m) ++ v0.cells.toList.drop (off + (flat (us.take m)).length) := by
        rw [hvc]
        rw [cells_agg, List.toList_toArray, List.size_toArray]
        rw [hzl, s5, list_splice2 v0.cells.toList (flat (us.take m)) (flat vs) (c.offs path) (lo * size) hT hub' (by rw [hfl, hflv, ← Nat.add_mul]; exact hmulle), hoff]
      have hfit : off + (flat (us.take m)).length ≤ v0.cells.size := by
        rw [hfl, ← hoff, Nat.add_assoc, ← Nat.add_mul]
        have : v0.cells.toList.length = v0.cells.size := Array.length_toList
        omega
      have hst := run_storeCells_fz (P := P) b off bt (0, 0) (flat (us.take m)) 0 v0.cells w hheap (noFz_zero _) (by simpa using hfit) hone
      simp only [Nat.add_zero] at hst
      rw [← hnew] at hst
      have hrun := run_copy (P := P) (ty := o.type) (sT := ts) (c := cap) (A := some ⟨b, off, none⟩) (sliceTy_sound ht) hs k1 hm (k5 m hmy) hst
      unfold runsTo
      have hexec : (execOp a.eval o).run P w = .ok (.value (.int .i64 m)) (w.setRow b v'.cells.toList.toArray) := by
        rw [he]
        simp [builtin, hv, hw, hrun]
      rw [hexec, Array.toArray_toList]
      exact ⟨g, g.le_refl, hS.store hp' hloc hv', .lit _ rfl⟩

/-- clear of a part of a row that may be written. -/
theorem holds_clear_ms {t e : TypeId} {size r ver lo len : Nat} {x : Operand} {xs : List AV} {z : AV} (ho : o.op = .call { callee := .builtin .clear, args := #[x], argTypes := #[t] }) (ht : sliceTy P t = some e) (hs : sizeIs P e size = true) (hz : ztree P e = some z) (hzs : z.sz = size) (hzc : z.cell = true) (hpos : 0 < size)
    (hx : aeval s x = .ms r ver size lo len) (hlen : lo + len ≤ xs.length) :
    OpHolds P o s id [(r, .mrow ver e size xs)] (.tup []) [(r, .mrow ver e size (xs.take lo ++ (List.replicate len z).take len ++ xs.drop (lo + len)))] := by
  refine ⟨fun p hp => by simp at hp; subst hp; simp, fun q hq => .inr ⟨(r, .mrow ver e size xs), by simp, by simp at hq; subst hq; rfl⟩, fun W0 g σ n w a hS hr _ _ hp => ?_⟩
  have h1 := hr x (by simp [ho, Op.operands, Call.operands])
  rw [hx] at h1
  have hp' : σ r = .mrow ver e size xs := hp (r, .mrow ver e size xs) (by simp)
  obtain ⟨cs, he⟩ := execOp_builtin (P := P) (a := a) ho w
  obtain ⟨u, vs, hmr, hsl, hvl, hvr, hvs, hown⟩ := hS.mrowAt hp'
  obtain ⟨i, zv, hi, hzv, hrz⟩ := ztree_sound hz g
  obtain ⟨ie, hie, hsi⟩ := sizeIs_sound hs
  rw [hi] at hie; cases hie
  have hzsz : zv.cells.size = size := by rw [hrz.size, hzs]
  have hall : ∀ v ∈ List.replicate len zv, v.cells.size = size := fun v hv => by rw [List.eq_of_mem_replicate hv]; exact hzsz
  obtain ⟨s1, s2, s3, s4, s5⟩ := spliced (ys := List.replicate len z) (us := List.replicate len zv) (lo := lo) (m := len) hvl (by simp) hvr (rep_replicate hrz len) hvs hall (by omega) (by simp)
  generalize hv : a.eval x = v at h1
  have hnews : flat ((List.replicate len zv).take len) = (Builtin.zeroCells zv.cells len).toList := by
    rw [List.take_of_length_le (by simp)]
    have := flat_replicate len zv size hzsz hpos
    rw [← this]
    simp [Builtin.zeroCells, hzsz]
  have hfl : (flat ((List.replicate len zv).take len)).length = len * size := by rw [flat_length _ size (fun v hv => hall v (List.mem_of_mem_take hv)), List.length_take]; simp
  have hone : ∀ q ∈ flat ((List.replicate len zv).take len), q.oneCell' = true := by
    intro q hq
    obtain ⟨v, hv, hq⟩ := mem_flat.1 hq
    rw [List.eq_of_mem_replicate (List.mem_of_mem_take hv)] at hq
    exact hrz.cell_ok hzc q hq
  cases h1 with
  | ms _ _ _ _ _ ver' u' A c hm' hv' hl hc h =>
    rw [hmr] at hm'; cases hm'
    obtain ⟨A0, n0, c0, rfl, j1, j2, j3⟩ := h rfl
    simp only [slen] at hsl
    subst hsl
    unfold runsTo
    by_cases hm0 : len = 0
    · subst hm0
      have hexec : (execOp a.eval o).run P w = .ok (.value (.tuple #[])) w := by
        rw [he]
        cases A <;> simp [builtin, hv, Builtin.clear_, run_underlying (sliceTy_sound ht)]
      rw [hexec]
      refine ⟨g, g.le_refl, ?_, .tup [] [] rfl fun i x v h _ => by simp at h⟩
      have e1 : xs.take lo ++ (List.replicate 0 z).take 0 ++ xs.drop (lo + 0) = xs := by simp
      have e2 : upd σ r (.mrow ver e size xs) = σ := by
        funext i
        by_cases hi : i = r
        · subst hi; rw [upd_same, hp']
        · rw [upd_ne _ _ _ _ hi]
      show Sim W0 g (upd σ r _) n w
      rw [e1, e2]; exact hS
    · obtain ⟨b, rfl, rfl⟩ := j3 (by omega)
      obtain ⟨w', hst, l1, l2, l3, l4, l5, l6⟩ := row_written (P := P) (off := lo * size) (news := flat ((List.replicate len zv).take len)) hown (by
        rw [hfl, hown.1, ← Nat.add_mul]; exact Nat.mul_le_mul_right _ (by omega)) hone
      rw [hnews] at hst
      rw [← s5] at l1
      obtain ⟨g', hle, hS', _, _⟩ := hS.turnM (ver' := ver) (vs' := vs.take lo ++ (List.replicate len zv).take len ++ vs.drop (lo + len)) hp' hmr (.inl ⟨rfl, rfl⟩) (by rw [s2]; exact l1) (by simp only [slen]; rw [s2]) s1 s3 s4 l2 l3 l4 l5 (.inl rfl) (fun j hj _ => l6 j (fun e => hj (by rw [e]; rfl)))
      obtain ⟨len', rfl⟩ : ∃ k, len = k + 1 := ⟨len - 1, by omega⟩
      have hexec : (execOp a.eval o).run P w = .ok (.value (.tuple #[])) w' := by
        rw [he]
        simp [builtin, hv, Builtin.clear_, run_underlying (sliceTy_sound ht), zeroValue, typeInfo, hi, hzv, hst]
      rw [hexec]
      exact ⟨g', hle, hS', .tup [] [] rfl fun i x v h _ => by simp at h⟩

/-- The bytes of a string, as a row. -/
theorem holds_convert_str_bytes {src dst e : TypeId} {x : Operand} {b : ByteArray} (ho : o.op = .convert src dst x) (hs : strTy P src = true) (hd : sliceTy P dst = some e) (he : byteTy P e = true) (h1 : sizeIs P e 1 = true) (hx : aeval s x = .lit (.string b)) (hb : b.size ≤ maxLen) :
    OpHolds P o s id [] (.ms id 0 1 0 b.size) [(id, .mrow 0 e 1 (b.data.toList.map byteAV))] := by
  refine ⟨fun p hp => (by cases hp), fun q hq => .inl (by simp at hq; subst hq; rfl), fun W0 g σ n w a hS hr hf hn _ => ?_⟩
  have h2 := hr x (by simp [ho, Op.operands])
  rw [hx] at h2
  have e2 := rep_lit_inv h2
  have heu : P.underlying e = some (.int .u8) := by
    unfold byteTy at he
    split at he
    · assumption
    · cases he
  have hrun := run_bytes_of_string (P := P) w src dst e b (strTy_sound hs) (sliceTy_sound hd) heu
  have hge := grownCap_ge w b.size 0 e
  have hcm := grownCap_le_maxLen w b.size 0 e hb
  let vs : List Value := b.data.toList.map fun c => Value.int .u8 (c.toNat : Int)
  have hlits : ∀ v ∈ vs, v.oneCell' = true := fun v hv => by obtain ⟨c, _, rfl⟩ := List.mem_map.1 hv; rfl
  have hxs : (b.data.toList.map byteAV).length = b.size := by simp
  have hdrew : Sim W0 g σ n w.drew := hS.drew
  obtain ⟨g', hle, hS', hrp⟩ := hdrew.newM (k := id) (e := e) (size := 1) (xs := b.data.toList.map byteAV) (vs := vs) hf hn (bytesRow b (grownCap w b.size 0 e)) (grownCap w b.size 0 e) (by simp [vs]) (byteVals_rep g _) (fun v hv => by rw [oneCell_size (hlits v hv)]) (by rw [hxs]; exact hge) hcm
    (by simp [bytesRow]; omega) (by
      rw [hxs, flat_lits vs hlits]
      simp only [bytesRow, Array.toList_append, Array.toList_map, Nat.mul_one]
      rw [List.take_append_of_le_length (by simp), List.take_of_length_le (by simp)]) (fz := ((bytesRow b (grownCap w b.size 0 e)).size, (bytesRow b (grownCap w b.size 0 e)).size + 1)) (.inr (Nat.le_refl _))
  unfold runsTo
  have hexec : (execOp a.eval o).run P w = .ok (.value (.slice (some ⟨w.heap.size, 0, none⟩) b.size (grownCap w b.size 0 e))) (w.drew.alloc (.cells (bytesRow b (grownCap w b.size 0 e)) e ((bytesRow b (grownCap w b.size 0 e)).size, (bytesRow b (grownCap w b.size 0 e)).size + 1))) := by
    simp [execOp, ho, e2, hrun]
  rw [hexec]
  rw [hxs] at hrp
  exact ⟨g', hle, hS', hrp⟩

/-- A value of an interface type. -/
theorem holds_makeInterface {t : TypeId} {x : Operand} (ho : o.op = .makeInterface t x) (ht : P.concrete t = true) : OpHolds P o s id [] (.iface t (aeval s x)) [] :=
  holds_pure fun g w a hr => by
    have h1 := hr x (by simp [ho, Op.operands])
    exact ⟨.iface t (a.eval x), by simp [execOp, ho, run_makeInterface, ht], .iface t _ _ h1⟩

/-- v, ok := x.(T), T no interface type. -/
def assertT (P : Program) (asserted : TypeId) (x : AV) : Option AV :=
  if P.concrete asserted then
    match x with
    | .iface t y => if t = asserted then some (.tup [y, .lit (.bool true)]) else (ztree P asserted).map fun z => .tup [z, .lit (.bool false)]
    | .lit .nilIface => (ztree P asserted).map fun z => .tup [z, .lit (.bool false)]
    | _ => none
  else none

theorem concrete_desc {t : TypeId} (h : P.concrete t = true) : ∃ d, P.underlying t = some d ∧ ∀ ms, d ≠ .interface ms := by
  unfold Program.concrete at h
  cases hu : P.underlying t with
  | none => rw [hu] at h; simp at h
  | some d =>
    rw [hu] at h
    refine ⟨d, rfl, fun ms e => ?_⟩
    subst e
    simp at h
end
end Go.Ab

/- Are two structs, or two arrays of bytes, one? Strings as lists of bytes. v, ok := x.(T). -/
namespace Go.Ab
open Go.RowKit

/-- What is asked of two values of a type that are compared. -/
inductive EqSh where
  | bool
  | int
  | str
  | bytes (n : Nat)
  | agg (l : List EqSh)

mutual
def EqSh.size : EqSh → Nat
  | .bytes n => n
  | .agg l => EqSh.sizes l
  | _ => 1
def EqSh.sizes : List EqSh → Nat
  | [] => 0
  | x :: r => EqSh.size x + EqSh.sizes r
end
def EqSh.isAgg : EqSh → Bool
  | .bytes _ => true
  | .agg _ => true
  | _ => false

def bytesOf0 : List AV → Option (List UInt8)
  | [] => some []
  | .lit (.int .u8 n) :: r => if 0 ≤ n ∧ n < 256 then (bytesOf0 r).map (UInt8.ofNat n.toNat :: ·) else none
  | _ :: _ => none

theorem bytesOf0_sound : ∀ {xs : List AV} {bs : List UInt8}, bytesOf0 xs = some bs → xs = bs.map byteAV
  | [], bs, h => by simp [bytesOf0] at h; subst h; rfl
  | x :: r, bs, h => by
    unfold bytesOf0 at h
    split at h
    · rename_i e; simp at e
    · rename_i n r' e
      simp at e
      obtain ⟨rfl, rfl⟩ := e
      split at h
      · rename_i hn
        cases hr : bytesOf0 r with
        | none => rw [hr] at h; cases h
        | some q =>
          rw [hr] at h
          cases h
          rw [bytesOf0_sound hr]
          simp only [List.map_cons, byteAV]
          congr 3
          rw [UInt8.toNat_ofNat']
          omega
      · cases h
    · cases h

theorem bytesOf0_map (bs : List UInt8) : bytesOf0 (bs.map byteAV) = some bs := by
  induction bs with
  | nil => rfl
  | cons b r ih =>
    have := b.toNat_lt
    simp only [List.map_cons, byteAV, bytesOf0, Int.toNat_natCast, UInt8.ofNat_toNat]
    rw [if_pos (by omega)]
    rw [ih]
    rfl

mutual
def eqA : EqSh → AV → AV → Option Bool
  | .bool, .lit (.bool a), .lit (.bool b) => some (a == b)
  | .int, .lit (.int k a), .lit (.int k' b) => if k = k' then some (a == b) else none
  | .str, .lit (.string a), .lit (.string b) => some (a.toList == b.toList)
  | .bytes n, .agg xs, .agg ys => match bytesOf0 xs, bytesOf0 ys with
    | some a, some b => if a.length = n ∧ b.length = n then some (a == b) else none
    | _, _ => none
  | .agg l, .agg xs, .agg ys => eqAs l xs ys
  | _, _, _ => none
def eqAs : List EqSh → List AV → List AV → Option Bool
  | [], [], [] => some true
  | s :: l, x :: xs, y :: ys => match eqA s x y, eqAs l xs ys with
    | some a, some b => some (a && b)
    | _, _ => none
  | _, _, _ => none
end

def fieldsOK (P : Program) : List Field → List EqSh → Nat → Bool
  | [], [], _ => true
  | f :: fs, s :: l, off => f.name != "_" && f.offset == off && tyIs P f.type s.isAgg s.size && fieldsOK P fs l (off + s.size)
  | _, _, _ => false

def eqShape (P : Program) : Nat → TypeId → Option EqSh
  | 0, _ => none
  | m + 1, t => match P.underlying t with
    | some .bool => some .bool
    | some (.int _) => some .int
    | some .string => some .str
    | some (.array n e) => match P.underlying e, P.info? e with
      | some (.int .u8), some i => if i.size == 1 then some (.bytes n) else none
      | _, _ => none
    | some (.struct fs) => match fs.toList.mapM fun f => eqShape P m f.type with
      | some l => if fieldsOK P fs.toList l 0 && !(P.stoodInHeld t) && (P.info? t).isSome then some (.agg l) else none
      | none => none
    | _ => none

section
variable {P : Program}

theorem run_part {g : Ghost} {x : AV} {v : Value} (hr : Rep g x v) {t : TypeId} (ht : tyIs P t x.isAgg x.sz = true) (hx : x.isAgg = true ∨ x.one = true) {cs : Array Value} {off : Nat} (hc : ∀ (j : Nat) (u : Value), v.cells.toList[j]? = some u → cs.toList[off + j]? = some u) (hfit : off + v.cells.size ≤ cs.size) (w : World) :
    (part t cs off).run P w = .ok v w := by
  obtain ⟨h1, h2⟩ := tyIs_sound ht w
  unfold part
  rw [Sem.run_bind, h1]
  simp only [Result.andThen_ok]
  cases ha : x.isAgg with
  | true =>
    cases hr <;> simp [AV.isAgg] at ha
    case agg xs vs hvl hvr =>
      simp only [if_true, Sem.run_bind, h2, Result.andThen_ok, Sem.run_pure]
      have hsz : (flat vs).length = (AV.agg xs).sz := by
        have := (Rep.agg (g := g) xs vs hvl hvr).size
        simpa [Value.cells] using this
      congr 2
      apply Array.ext'
      simp only [cells_agg, List.size_toArray] at hfit
      have e : (cs.extract off (off + (AV.agg xs).sz)).toList = (cs.toList.drop off).take (AV.agg xs).sz := by
        simp [Array.toList_extract, List.extract]
      rw [e, ← hsz]
      apply List.ext_getElem?
      intro j
      rw [List.getElem?_take]
      split
      · rename_i hj
        rw [List.getElem?_drop, List.getElem?_eq_getElem hj]
        exact hc j _ (by rw [cells_agg, List.toList_toArray, List.getElem?_eq_getElem hj])
      · rename_i hj
        symm
        rw [List.getElem?_eq_none_iff]
        simp only [List.toList_toArray]
        omega
  | false =>
    have h1' : x.one = true := by
      rcases hx with hx | hx
      · rw [ha] at hx; cases hx
      · exact hx
    have hcv := hr.cells_one h1'
    have := hc 0 v (by rw [hcv]; rfl)
    simp only [Nat.add_zero, Array.getElem?_toList] at this
    simp only [Bool.false_eq_true, if_false, this, Sem.run_pure]

def EqRes (P : Program) (d : Nat) (t : TypeId) (x y : AV) (r : Bool) : Prop := ∀ (g : Ghost) (u v : Value) (w : World), Rep g x u → Rep g y v → (Op.equalIn d t u v).run P w = .ok r w

theorem eqA_form {sh : EqSh} {x y : AV} {r : Bool} (h : eqA sh x y = some r) : x.isAgg = sh.isAgg ∧ y.isAgg = sh.isAgg ∧ (x.isAgg = true ∨ x.one = true) ∧ (y.isAgg = true ∨ y.one = true) := by
  unfold eqA at h
  split at h <;> first | (cases h; done) | simp [AV.isAgg, EqSh.isAgg, AV.one]

mutual
theorem eqA_size {g : Ghost} : ∀ {sh : EqSh} {x y : AV} {r : Bool}, eqA sh x y = some r → x.sz = sh.size ∧ y.sz = sh.size
  | .bool, x, y, r, h => by
    unfold eqA at h
    split at h <;> first | (cases h; done) | simp_all [AV.sz, EqSh.size]
  | .int, x, y, r, h => by
    unfold eqA at h
    split at h <;> first | (cases h; done) | simp_all [AV.sz, EqSh.size]
  | .str, x, y, r, h => by
    unfold eqA at h
    split at h <;> first | (cases h; done) | simp_all [AV.sz, EqSh.size]
  | .bytes n, x, y, r, h => by
    unfold eqA at h
    split at h <;> first | (cases h; done) | skip
    all_goals try (rename_i e; cases e; done)
    rename_i n' xs ys e
    cases e
    split at h
    · rename_i a b ha hb
      split at h
      · rename_i hl
        rw [bytesOf0_sound ha, bytesOf0_sound hb]
        have hu : ∀ l : List UInt8, AV.szl (l.map byteAV) = l.length := fun l => by
          rw [AV.szl_uniform _ 1 fun x hx => by obtain ⟨b, _, rfl⟩ := List.mem_map.1 hx; rfl]; simp
        simp only [AV.sz, hu, EqSh.size]
        exact hl
      · cases h
    · cases h
  | .agg l, x, y, r, h => by
    unfold eqA at h
    split at h <;> first | (cases h; done) | skip
    all_goals try (rename_i e; cases e; done)
    rename_i l' xs ys e
    cases e
    have := eqAs_size (g := g) h
    simpa only [AV.sz, EqSh.size] using this
theorem eqAs_size {g : Ghost} : ∀ {l : List EqSh} {xs ys : List AV} {r : Bool}, eqAs l xs ys = some r → AV.szl xs = EqSh.sizes l ∧ AV.szl ys = EqSh.sizes l
  | [], xs, ys, r, h => by
    unfold eqAs at h
    split at h <;> first | (cases h; done) | simp_all [AV.szl, EqSh.sizes]
  | s :: l, xs, ys, r, h => by
    unfold eqAs at h
    split at h <;> first | (cases h; done) | skip
    all_goals try (rename_i e; cases e; done)
    rename_i s' l' x xs y ys e
    cases e
    split at h
    · rename_i a b ha hb
      obtain ⟨h1, h2⟩ := eqA_size (g := g) ha
      obtain ⟨h3, h4⟩ := eqAs_size (g := g) hb
      simp only [AV.szl, EqSh.sizes, h1, h2, h3, h4, and_self]
    · cases h
end

theorem eqFields_sound (d : Nat) (g : Ghost) (w : World) : ∀ (fs : List Field) (l : List EqSh) (off : Nat) (xs ys : List AV) (us vs : List Value) (cx cy : Array Value) (r : Bool), fieldsOK P fs l off = true → eqAs l xs ys = some r →
    (∀ (i : Nat) (f : Field) (s : EqSh), fs[i]? = some f → l[i]? = some s → ∀ x y r, eqA s x y = some r → EqRes P d f.type x y r) →
    us.length = xs.length → vs.length = ys.length → (∀ (i : Nat) (x : AV) (v : Value), xs[i]? = some x → us[i]? = some v → Rep g x v) → (∀ (i : Nat) (x : AV) (v : Value), ys[i]? = some x → vs[i]? = some v → Rep g x v) →
    (∀ (j : Nat) (u : Value), (flat us)[j]? = some u → cx.toList[off + j]? = some u) → (∀ (j : Nat) (u : Value), (flat vs)[j]? = some u → cy.toList[off + j]? = some u) → off + (flat us).length ≤ cx.size → off + (flat vs).length ≤ cy.size →
    (Op.eqFields d cx cy fs).run P w = .ok r w
  | [], l, off, xs, ys, us, vs, cx, cy, r, hf, he, _, _, _, _, _, _, _, _, _ => by
    cases l with
    | nil =>
      cases xs <;> cases ys <;> simp [eqAs] at he
      subst he
      simp [Op.eqFields]
    | cons s l => simp [fieldsOK] at hf
  | f :: fs, l, off, xs, ys, us, vs, cx, cy, r, hf, he, IH, hul, hvl, hur, hvr, hcx, hcy, hlx, hly => by
    cases l with
    | nil => simp [fieldsOK] at hf
    | cons s l =>
      simp only [fieldsOK, Bool.and_eq_true, bne_iff_ne, ne_eq, beq_iff_eq] at hf
      obtain ⟨⟨⟨hn, ho⟩, ht⟩, hrest⟩ := hf
      cases xs with
      | nil => cases ys <;> simp [eqAs] at he
      | cons x xs =>
      cases ys with
      | nil => simp [eqAs] at he
      | cons y ys =>
      unfold eqAs at he
      split at he
      · rename_i a b ha hb
        cases he
        cases us with
        | nil => simp at hul
        | cons u us =>
        cases vs with
        | nil => simp at hvl
        | cons v vs =>
        have hru : Rep g x u := hur 0 x u rfl rfl
        have hrv : Rep g y v := hvr 0 y v rfl rfl
        obtain ⟨f1, f2, f3, f4⟩ := eqA_form ha
        obtain ⟨z1, z2⟩ := eqA_size (g := g) ha
        rw [flat_cons] at hcx hcy hlx hly
        have lu : u.cells.toList.length = s.size := by rw [Array.length_toList, hru.size, z1]
        have lv : v.cells.toList.length = s.size := by rw [Array.length_toList, hrv.size, z2]
        rw [List.length_append, lu] at hlx
        rw [List.length_append, lv] at hly
        have p1 := run_part (P := P) hru (t := f.type) (by rw [f1, z1]; exact ht) f3 (cs := cx) (off := f.offset) (fun j q hq => by
          rw [ho]
          refine hcx j q ?_
          rw [List.getElem?_append_left (List.getElem?_eq_some_iff.1 hq).1]; exact hq) (by rw [ho, ← Array.length_toList, lu]; omega) w
        have p2 := run_part (P := P) hrv (t := f.type) (by rw [f2, z2]; exact ht) f4 (cs := cy) (off := f.offset) (fun j q hq => by
          rw [ho]
          refine hcy j q ?_
          rw [List.getElem?_append_left (List.getElem?_eq_some_iff.1 hq).1]; exact hq) (by rw [ho, ← Array.length_toList, lv]; omega) w
        have p3 := IH 0 f s rfl rfl x y a ha g u v w hru hrv
        have p4 := eqFields_sound d g w fs l (off + s.size) xs ys us vs cx cy b hrest hb (fun i f' s' h1 h2 => IH (i + 1) f' s' h1 h2) (by simpa using hul) (by simpa using hvl) (fun i x v h1 h2 => hur (i + 1) x v h1 h2) (fun i x v h1 h2 => hvr (i + 1) x v h1 h2)
          (fun j q hq => by
            have := hcx (s.size + j) q (by rw [List.getElem?_append_right (by omega), lu, Nat.add_sub_cancel_left]; exact hq)
            rw [Nat.add_assoc]; exact this) (fun j q hq => by
            have := hcy (s.size + j) q (by rw [List.getElem?_append_right (by omega), lv, Nat.add_sub_cancel_left]; exact hq)
            rw [Nat.add_assoc]; exact this) (by omega) (by omega)
        simp only [Op.eqFields, hn, ne_eq, not_false_eq_true, if_true, Sem.run_bind, p1, p2, p3, Result.andThen_ok]
        cases a
        · simp
        · simpa using p4
      · cases he

theorem mapM_at {α β : Type} {F : α → Option β} : ∀ {l : List α} {r : List β}, l.mapM F = some r → ∀ (i : Nat) (x : α) (y : β), l[i]? = some x → r[i]? = some y → F x = some y
  | [], r, h => by intro i x y hx; simp at hx
  | a :: l, r, h => by
    rw [List.mapM_cons] at h
    simp only [bind, Option.bind_eq_some_iff, pure, Option.some.injEq] at h
    obtain ⟨b, hb, bs, hbs, rfl⟩ := h
    intro i x y hx hy
    cases i with
    | zero => simp at hx hy; subst hx; subst hy; exact hb
    | succ i => exact mapM_at hbs i x y (by simpa using hx) (by simpa using hy)

theorem run_eqBytes (d : Nat) {e : TypeId} (he : P.underlying e = some (.int .u8)) (w : World) (a b : List UInt8) (hl : a.length = b.length) : ∀ (k i : Nat), i + k = a.length →
    (Op.eqItems (d + 1) e 1 (a.map fun c => Value.int .u8 (c.toNat : Int)).toArray (b.map fun c => Value.int .u8 (c.toNat : Int)).toArray (List.range' i k)).run P w = .ok (a.drop i == b.drop i) w
  | 0, i, hi => by
    simp [Op.eqItems]
    rw [List.drop_eq_nil_of_le (by omega), List.drop_eq_nil_of_le (by omega)]
  | k + 1, i, hi => by
    have h1 : i < a.length := by omega
    have h2 : i < b.length := by omega
    have ha : (isAgg e).run P w = .ok false w := by simp [isAgg, run_underlying he]
    have pa : ∀ c : List UInt8, (hc : i < c.length) → (part e (c.map fun c => Value.int .u8 (c.toNat : Int)).toArray (i * 1)).run P w = .ok (.int .u8 (c[i].toNat : Int)) w := fun c hc => by
      simp [part, ha, hc]
    have ih := run_eqBytes d he w a b hl k (i + 1) (by omega)
    have hdec : ((a[i].toNat : Int) == (b[i].toNat : Int)) = (a[i] == b[i]) := by
      rw [Bool.eq_iff_iff]
      simp only [beq_iff_eq]
      constructor
      · intro h; exact UInt8.toNat_inj.1 (by omega)
      · intro h; rw [h]
    rw [List.range'_succ]
    simp only [Op.eqItems, Sem.run_bind, pa a h1, pa b h2, Result.andThen_ok, run_equalIn_int w d e .u8 .u8 _ _ he, hdec]
    rw [List.drop_eq_getElem_cons h1, List.drop_eq_getElem_cons h2]
    cases hb : a[i] == b[i]
    · have : (a[i] :: a.drop (i + 1) == b[i] :: b.drop (i + 1)) = false := by
        simp only [List.cons_beq_cons, hb, Bool.false_and]
      rw [this]; simp
    · have : (a[i] :: a.drop (i + 1) == b[i] :: b.drop (i + 1)) = (a.drop (i + 1) == b.drop (i + 1)) := by
        simp only [List.cons_beq_cons, hb, Bool.true_and]
      rw [this]; simpa using ih

theorem eqShape_sound : ∀ (m : Nat) (t : TypeId) (sh : EqSh), eqShape P m t = some sh → ∀ (d : Nat) (x y : AV) (r : Bool), eqA sh x y = some r → EqRes P (d + m + 1) t x y r
  | 0, t, sh, h => by simp [eqShape] at h
  | m + 1, t, sh, h => by
    intro d x y r he g u v w hu hv
    unfold eqShape at h
    split at h
    · rename_i ht
      cases h
      unfold eqA at he
      split at he <;> first | (cases he; done) | skip
      all_goals try (rename_i e; cases e; done)
      cases he
      rw [rep_lit_inv hu, rep_lit_inv hv]
      exact run_equalIn_bool ht _ _ _ w
    · rename_i k ht
      cases h
      unfold eqA at he
      split at he <;> first | (cases he; done) | skip
      all_goals try (rename_i e; cases e; done)
      split at he
      · rename_i hk
        subst hk
        cases he
        rw [rep_lit_inv hu, rep_lit_inv hv]
        exact run_equalIn_int w _ t _ _ _ _ ht
      · cases he
    · rename_i ht
      cases h
      unfold eqA at he
      split at he <;> first | (cases he; done) | skip
      all_goals try (rename_i e; cases e; done)
      cases he
      rw [rep_lit_inv hu, rep_lit_inv hv]
      exact run_equalIn_string w _ t _ _ ht
    · rename_i n e ht
      split at h
      · rename_i i he' hi
        split at h
        · rename_i hsz
          cases h
          unfold eqA at he
          split at he <;> first | (cases he; done) | skip
          all_goals try (rename_i e; cases e; done)
          rename_i n' xs ys e1
          cases e1
          split at he
          · rename_i a b ha hb
            split at he
            · rename_i hl
              cases he
              obtain ⟨hl1, hl2⟩ := hl
              rw [bytesOf0_sound ha] at hu
              rw [bytesOf0_sound hb] at hv
              cases hu with
              | agg _ us hul hur =>
              cases hv with
              | agg _ vs hvl hvr =>
              rw [rep_bytes hul hur, rep_bytes hvl hvr, flat_lits _ (fun v hv => by obtain ⟨b, _, rfl⟩ := List.mem_map.1 hv; rfl), flat_lits _ (fun v hv => by obtain ⟨b, _, rfl⟩ := List.mem_map.1 hv; rfl)]
              have hc : P.cellsOf e = 1 := by
                simp only [Program.cellsOf, hi]
                simpa using hsz
              rw [show d + (m + 1) + 1 = (d + m + 1) + 1 from by omega, run_equalIn_array w (d + m + 1) _ _ ht hi, hc, List.range_eq_range']
              have := run_eqBytes (P := P) (d + m) he' w a b (by omega) n 0 (by omega)
              simpa using this
            · cases he
          · cases he
        · cases h
      · cases h
    · rename_i fs ht
      split at h
      · rename_i l hl
        split at h
        · rename_i hc
          cases h
          simp only [Bool.and_eq_true, Bool.not_eq_true'] at hc
          obtain ⟨⟨hc1, hc2⟩, _⟩ := hc
          unfold eqA at he
          split at he <;> first | (cases he; done) | skip
          all_goals try (rename_i e; cases e; done)
          rename_i l' xs ys e1
          cases e1
          cases hu with
          | agg _ us hul hur =>
          cases hv with
          | agg _ vs hvl hvr =>
          have hfs : P.fieldsOf t = fs := by simp [Program.fieldsOf, ht]
          rw [show d + (m + 1) + 1 = (d + m + 1) + 1 from by omega, run_equalIn_struct w (d + m + 1) t _ _ (by rw [hfs]; exact ht) hc2, hfs]
          exact eqFields_sound (P := P) (d + m + 1) g w fs.toList l 0 xs ys us vs _ _ r hc1 he (fun i f s h1 h2 x y r hr => eqShape_sound m f.type s (mapM_at hl i f s h1 h2) d x y r hr) hul hvl hur hvr
            (fun j q hq => by rw [Nat.zero_add]; exact hq) (fun j q hq => by rw [Nat.zero_add]; exact hq) (by simp) (by simp)
        · cases h
      · cases h
    · cases h

/-- A type whose values are compared part by part. -/
def eqTop (P : Program) (t : TypeId) : Option EqSh := if P.eqGuardType P.depth t then none else eqShape P 8 t

def evEqA (P : Program) (op : BinOp) (t : TypeId) (x y : AV) : Option Bool :=
  match eqTop P t with
  | some sh => match eqA sh x y with
    | some r => match op with
      | .eql => some r
      | .neq => some !r
      | _ => none
    | none => none
  | none => none

theorem holds_eqA {o : Oper} {s : Slots} {id : Nat} {op : BinOp} {t yt : TypeId} {x y : Operand} {xs ys : List AV} {r : Bool} (ho : o.op = .binOp op t x y yt) (hx : aeval s x = .agg xs) (hy : aeval s y = .agg ys) (h : evEqA P op t (.agg xs) (.agg ys) = some r) :
    OpHolds P o s id [] (.lit (.bool r)) [] :=
  holds_pure fun g w a hr => by
    have h1 := hr x (by simp [ho, Op.operands])
    have h2 := hr y (by simp [ho, Op.operands])
    rw [hx] at h1
    rw [hy] at h2
    refine ⟨.bool r, ?_, .lit _ rfl⟩
    unfold evEqA eqTop at h
    split at h
    · rename_i sh hsh
      split at hsh
      · cases hsh
      · rename_i hg
        split at h
        · rename_i r0 hr0
          generalize hX : a.eval x = X at h1
          generalize hY : a.eval y = Y at h2
          have hrun := eqShape_sound (P := P) 8 t sh hsh 9991 _ _ r0 hr0 g _ _ w h1 h2
          cases h1 with
          | agg _ us _ _ =>
          cases h2 with
          | agg _ vs _ _ =>
          have hg' : P.eqGuardType P.depth t = false := by simpa using hg
          have hgd := fun op => run_eqGuard_agg (P := P) w op t x y (flat us).toArray (flat vs).toArray hg'
          split at h
          · cases h
            have := run_eql_struct (P := P) w t (flat us).toArray (flat vs).toArray
            rw [hrun] at this
            simp only [Result.andThen_ok] at this
            simp only [execOp, ho, hX, hY, Sem.run_bind, hgd, Result.andThen_ok, this, Sem.run_pure]
          · cases h
            have := run_neq_struct (P := P) w t (flat us).toArray (flat vs).toArray
            rw [hrun] at this
            simp only [Result.andThen_ok] at this
            simp only [execOp, ho, hX, hY, Sem.run_bind, hgd, Result.andThen_ok, this, Sem.run_pure]
          · cases h
        · cases h
    · cases h

/-! ### v, ok := x.(T) -/
theorem holds_typeAssert {o : Oper} {s : Slots} {id : Nat} {x : Operand} {xt at' : TypeId} {v : AV} (ho : o.op = .typeAssert x xt at' true) (h : assertT P at' (aeval s x) = some v) : OpHolds P o s id [] v [] :=
  holds_pure fun g w a hr => by
    have h1 := hr x (by simp [ho, Op.operands])
    unfold assertT at h
    split at h
    · rename_i hc
      obtain ⟨d, hd, hni⟩ := concrete_desc hc
      generalize hX : a.eval x = X at h1
      split at h
      · rename_i t y hy
        rw [hy] at h1
        cases h1 with
        | iface _ _ u hu =>
          split at h
          · rename_i htt
            subst htt
            cases h
            refine ⟨.tuple #[u, .bool true], ?_, ?_⟩
            · simp only [execOp, ho, hX, Sem.run_bind, Instr.typeAssert, run_underlying hd, Result.andThen_ok]
              cases d <;> first | (exact absurd rfl (hni _)) | simp
            · refine .tup [y, .lit (.bool true)] [u, .bool true] rfl fun i x v hx hv => ?_
              match i with
              | 0 => simp at hx hv; subst hx; subst hv; exact hu
              | 1 => simp at hx hv; subst hx; subst hv; exact .lit _ rfl
              | n + 2 => simp at hx
          · rename_i htt
            simp only [Option.map_eq_some_iff] at h
            obtain ⟨z, hz, rfl⟩ := h
            obtain ⟨i, zv, hi, hzv, hrz⟩ := ztree_sound hz g
            refine ⟨.tuple #[zv, .bool false], ?_, ?_⟩
            · simp only [execOp, ho, hX, Sem.run_bind, Instr.typeAssert, run_underlying hd, Result.andThen_ok]
              cases d <;> first | (exact absurd rfl (hni _)) | simp [htt, zeroValue, typeInfo, hi, hzv]
            · refine .tup [z, .lit (.bool false)] [zv, .bool false] rfl fun i x v hx hv => ?_
              match i with
              | 0 => simp at hx hv; subst hx; subst hv; exact hrz
              | 1 => simp at hx hv; subst hx; subst hv; exact .lit _ rfl
              | n + 2 => simp at hx
      · rename_i hy
        rw [hy] at h1
        have e := rep_lit_inv h1
        subst e
        simp only [Option.map_eq_some_iff] at h
        obtain ⟨z, hz, rfl⟩ := h
        obtain ⟨i, zv, hi, hzv, hrz⟩ := ztree_sound hz g
        refine ⟨.tuple #[zv, .bool false], ?_, ?_⟩
        · simp only [execOp, ho, hX, Sem.run_bind, Instr.typeAssert, run_underlying hd, Result.andThen_ok]
          cases d <;> first | (exact absurd rfl (hni _)) | simp [zeroValue, typeInfo, hi, hzv]
        · refine .tup [z, .lit (.bool false)] [zv, .bool false] rfl fun i x v hx hv => ?_
          match i with
          | 0 => simp at hx hv; subst hx; subst hv; exact hrz
          | 1 => simp at hx hv; subst hx; subst hv; exact .lit _ rfl
          | n + 2 => simp at hx
      · cases h
    · cases h
end
end Go.Ab

/- append(s, make([]T, n)...), as the text has it: n zeros behind a row of one's own. -/
namespace Go.Ab
open Go.RowKit

section
variable {P : Program} {o : Oper} {s : Slots} {id : Nat}

theorem zeroCells_one {z : Value} {m : Nat} (hpos : 0 < z.cells.size) (h1 : ∀ u ∈ z.cells.toList, u.oneCell' = true) : ∀ u ∈ (Builtin.zeroCells z.cells m).toList, u.oneCell' = true := by
  intro u hu
  simp only [Builtin.zeroCells, Array.toList_map, List.mem_map] at hu
  obtain ⟨j, hj, rfl⟩ := hu
  have hlt : j % z.cells.size < z.cells.size := Nat.mod_lt _ hpos
  refine h1 _ ?_
  rw [getElem!_pos z.cells _ hlt]
  exact Array.getElem_mem_toList hlt

theorem run_append_zeros_room {w : World} {t tn ty e : TypeId} {i : TypeInfo} {z : Value} {k kn : IntKind} (ht : P.underlying t = some (.slice e)) (htn : P.underlying tn = some (.int kn)) (hi : P.info? e = some i) (hz : i.zero = some z) (hzs : z.cells.size = i.size) (hpos : 0 < i.size)
    {g sLen sCap : Nat} {cur : Array Value} {fz : Nat × Nat} (hg : w.heap[g]? = some (.cells cur e fz)) (hfz : noFz fz cur.size) {m : Nat} (hm : 0 < m) (h1 : ∀ u ∈ z.cells.toList, u.oneCell' = true) (hmb : m * i.bytes ≤ 140737488355328) (hm63 : m ≤ 140737488355328)
    (hroom : sLen + m ≤ sCap) (hfit : sLen * i.size + m * i.size ≤ cur.size) :
    (Builtin.append_ #[t, tn] ty #[.slice (some ⟨g, 0, none⟩) sLen sCap, .int k (m : Int)]).run P w =
      .ok (.slice (some ⟨g, 0, none⟩) (sLen + m) sCap) (w.setRow g (cur.toList.take (sLen * i.size) ++ (Builtin.zeroCells z.cells m).toList ++ cur.toList.drop (sLen * i.size + (Builtin.zeroCells z.cells m).toList.length)).toArray) := by
  have hzl : (Builtin.zeroCells z.cells m).toList.length = m * i.size := by rw [Array.length_toList, size_zeroCells, hzs]
  have hst := run_storeCells_fz (P := P) g (sLen * i.size) e fz (Builtin.zeroCells z.cells m).toList 0 cur w hg hfz (by rw [hzl]; simpa using hfit) (zeroCells_one (by omega) h1)
  simp only [Nat.add_zero] at hst
  have hw : IntKind.i64.wrap (m : Int) = m := by rw [IntKind.wrap_i64]; omega
  have hm0 : m ≠ 0 := by omega
  have hs0 : i.size ≠ 0 := by omega
  have h48i : ¬ (281474976710656 < (m : Int) * (i.bytes : Int)) := by
    rw [← Int.natCast_mul]
    omega
  have hneg : ¬ ((m : Int) < 0) := by omega
  have hmz : ¬ m * i.size = 0 := fun h => by rcases Nat.mul_eq_zero.1 h with h | h <;> omega
  simp [Builtin.append_, run_underlying ht, run_underlying htn, asInt, asIntOf, sizeOf, typeInfo, zeroValue, hi, hz, hw, h48i, hneg, hroom, hmz, Addr.add_lit, hst]

/-- append of n zeros to a row of one's own. -/
theorem holds_append_zeros {t tn e : TypeId} {size bytes r : Nat} {z : AV} {x y : Operand} {xs : List AV} {k kn : IntKind} {m : Int} (ho : o.op = .call { callee := .builtin .append, args := #[x, y], argTypes := #[t, tn] }) (ht : sliceTy P t = some e) (htn : intTy P tn = some kn) (hs : sizeIs P e size = true) (hb : bytesIs P e bytes = true)
    (hz : ztree P e = some z) (hzs : z.sz = size) (hzc : z.cell = true) (hpos : 0 < size) (hx : aeval s x = .slice (some r) xs) (hy : aeval s y = .lit (.int k m)) (h0 : 0 ≤ m)
    (hsx : xs.all (fun x => x.sz == size) = true) (hbytes : (xs.length + m.toNat) * bytes ≤ 140737488355328) (hmx : xs.length + m.toNat ≤ 140737488355328) :
    OpHolds P o s id [(r, .row e size xs.length)] (.slice (some r) (xs ++ List.replicate m.toNat z)) [(r, .row e size (xs.length + m.toNat))] := by
  refine ⟨fun p hp => by simp at hp; subst hp; simp, fun q hq => .inr ⟨(r, .row e size xs.length), by simp, by simp at hq; subst hq; rfl⟩, fun W0 g σ n w a hS hr _ _ hp => ?_⟩
  have h1 := hr x (by simp [ho, Op.operands, Call.operands])
  have h2 := hr y (by simp [ho, Op.operands, Call.operands])
  rw [hx] at h1
  rw [hy] at h2
  have e2 := rep_lit_inv h2
  obtain ⟨m, rfl⟩ := Int.eq_ofNat_of_zero_le h0
  simp only [Int.toNat_natCast] at hbytes hmx ⊢
  have hp' : σ r = .row e size xs.length := hp (r, .row e size xs.length) (by simp)
  obtain ⟨cs, he⟩ := execOp_builtin (P := P) (a := a) ho w
  have hE := hS.ents r
  rw [hp'] at hE
  obtain ⟨hl, u, cells0, hu, hlen, _⟩ := hE
  have hxu : a.eval x = u := by
    generalize hv : a.eval x = v at h1
    cases h1 with
    | slice _ _ vs A c size' hvl hc hm hvr hvs hcell hown' =>
      obtain ⟨u', hu', _, h3⟩ := hown' r rfl
      rw [hu] at hu'
      cases hu'
      exact h3 hlen.symm
  obtain ⟨i0, zv0, hi0, hzv0, hrz0⟩ := ztree_sound hz g
  have hbi : i0.bytes = bytes := by unfold bytesIs at hb; rw [hi0] at hb; simpa using hb
  have hmb : m * i0.bytes ≤ 140737488355328 := by
    rw [hbi]
    exact Nat.le_trans (Nat.mul_le_mul_right _ (by omega)) hbytes
  have hzsz : zv0.cells.size = size := by rw [hrz0.size, hzs]
  have hall : ∀ v ∈ List.replicate m zv0, v.cells.size = size := fun v hv => by rw [List.eq_of_mem_replicate hv]; exact hzsz
  have hfl : flat (List.replicate m zv0) = (Builtin.zeroCells zv0.cells m).toList := by
    rw [← flat_replicate m zv0 size hzsz hpos]
    simp [Builtin.zeroCells, hzsz]
  have hone : ∀ q ∈ zv0.cells.toList, q.oneCell' = true := hrz0.cell_ok hzc
  have hl2 : (List.replicate m z).length = m := by simp
  have key := append_gen (P := P) (R := fun u' w' => (Builtin.append_ #[t, tn] o.type #[u, .int k (m : Int)]).run P w = .ok u' w') (ys := List.replicate m z) (us := List.replicate m zv0) hs hz hzs hS hp' hu rfl (.inr (by rw [← hxu]; exact h1)) hsx (by simp) (rep_replicate hrz0 m) hall
    (fun hm0 ⟨A', c', hu', hc'⟩ => by
      rw [hl2] at hm0
      subst hm0 hu'
      cases A' <;> simp [Builtin.append_, run_underlying (sliceTy_sound ht), run_underlying (intTy_sound htn), asInt, asIntOf, sizeOf, typeInfo, hi0, IntKind.wrap_i64, hc', storeCells])
    (fun i zv cells hi hzv hsi hzc' hrz hown hpos' => by
      rw [hi0] at hi; cases hi
      rw [hzv0] at hzv; cases hzv
      rw [hl2] at hpos' ⊢
      rw [hfl]
      rcases hown.2 with ⟨rfl, hk0⟩ | ⟨g0, cap, cur, fz, rfl, hbg, hg, hfz, hnc, hcm, hcs, htake⟩
      · have hcl : cells = [] := List.eq_nil_of_length_eq_zero (by rw [hown.1, hk0]; simp)
        subst hcl
        have hr := Go.Lib.run_append_nil_zeros (P := P) w t tn o.type e i0 zv0 k kn (sliceTy_sound ht) (intTy_sound htn) hi0 hzv0 m hpos' (by omega) (by omega) (by omega)
        have hge := grownCap_ge w m 0 e
        have hcm := grownCap_le_maxLen w m 0 e (by unfold maxLen; omega)
        rw [hk0, Nat.zero_add]
        refine ⟨_, _, hr, ⟨by simp [size_zeroCells, hzc'], .inr ⟨w.heap.size, _, _, (0, 0), rfl, hS.below.size, heap_alloc_new w.drew _, noFz_zero _, hge, hcm, ?_, ?_⟩⟩, rfl, rfl, rfl, rfl, by simp, .inr ⟨hpos', rfl, fun j hj => heap_alloc_old w.drew _ j hj⟩⟩
        · simp only [Array.size_append, size_zeroCells, hzc', ← Nat.add_mul]
          congr 1; omega
        · have : (Builtin.zeroCells zv0.cells m).toList.length = m * i0.size := by rw [Array.length_toList, size_zeroCells, hzc']
          rw [← this]
          simp
      · by_cases hroom : xs.length + m ≤ cap
        · have hfit : xs.length * i0.size + m * i0.size ≤ cur.size := by rw [hcs, ← Nat.add_mul]; exact Nat.mul_le_mul_right _ hroom
          have hr := run_append_zeros_room (P := P) (k := k) (ty := o.type) (sliceTy_sound ht) (intTy_sound htn) hi0 hzv0 hzc' (by omega) hg hfz hpos' hone hmb (by omega) hroom hfit
          have hzl : (Builtin.zeroCells zv0.cells m).toList.length = m * i0.size := by rw [Array.length_toList, size_zeroCells, hzc']
          have hlenA : (cells ++ (Builtin.zeroCells zv0.cells m).toList).length = (xs.length + m) * i0.size := by rw [List.length_append, hown.1, hzl, Nat.add_mul]
          have hcz : (cur.toList.take (xs.length * i0.size) ++ (Builtin.zeroCells zv0.cells m).toList ++ cur.toList.drop (xs.length * i0.size + (Builtin.zeroCells zv0.cells m).toList.length)).toArray.size = cur.size := by
            simp only [List.size_toArray, List.length_append, List.length_take, List.length_drop, Array.length_toList] at hzl ⊢
            omega
          refine ⟨_, _, hr, ⟨hlenA, .inr ⟨g0, cap, _, fz, rfl, hbg, setRow_heap w g0 cur _ e _ hg, by rw [hcz]; exact hfz, hroom, hcm, by rw [hcz]; exact hcs, ?_⟩⟩, rfl, rfl, rfl, rfl, by simp [World.setRow], .inl ⟨hpos', rfl, fun j hj _ => setRow_other w g0 j _ (fun e => hj (by simp [Value.ownBlock, e]))⟩⟩
          rw [htake, ← hlenA]
          exact List.take_left
        · have hold : (Builtin.firstCells i0.size xs.length (.slice (some ⟨g0, 0, none⟩) xs.length cap)).run P w.drew = .ok cells.toArray w.drew :=
            run_firstCells_some (P := P) w.drew i0.size xs.length ⟨g0, 0, none⟩ xs.length cap cells hown.1 fun j q hq => by rw [Addr.add_lit, Nat.zero_add]; exact hown.cells (g := g0) rfl j q hq
          have hr := Go.Lib.run_append_grow_zeros (P := P) w t tn o.type e i0 zv0 k kn (sliceTy_sound ht) (intTy_sound htn) hi0 hzv0 (some ⟨g0, 0, none⟩) xs.length cap cells hold m hpos' (by omega) (by omega) (by omega) (by omega) (growslice_fits (by omega) (by rw [hbi]; exact hbytes))
          have hge := grownCap_ge w (xs.length + m) cap e
          have hcm' := grownCap_le_maxLen w (xs.length + m) cap e (by unfold maxLen; omega)
          have hzl : (Builtin.zeroCells zv0.cells m).toList.length = m * i0.size := by rw [Array.length_toList, size_zeroCells, hzc']
          have hlenA : (cells ++ (Builtin.zeroCells zv0.cells m).toList).length = (xs.length + m) * i0.size := by rw [List.length_append, hown.1, hzl, Nat.add_mul]
          refine ⟨_, _, hr, ⟨hlenA, .inr ⟨w.heap.size, _, _, (0, 0), rfl, hS.below.size, heap_alloc_new w.drew _, noFz_zero _, hge, hcm', ?_, ?_⟩⟩, rfl, rfl, rfl, rfl, by simp, .inr ⟨hpos', rfl, fun j hj => heap_alloc_old w.drew _ j hj⟩⟩
          · simp only [Array.size_append, List.size_toArray, size_zeroCells, hzc', hown.1, ← Nat.add_mul]
            congr 1; omega
          · simp only [Array.toList_append, List.append_assoc]
            rw [← List.append_assoc, ← hlenA]
            exact List.take_left)
    (fun i zv A0 cells hi hzv hsi hzc' hrz hu' hcl hcells hpos' => by
      rw [hi0] at hi; cases hi
      rw [hzv0] at hzv; cases hzv
      rw [hl2] at hpos' ⊢
      rw [hfl]
      subst hu'
      have hold : (Builtin.firstCells i0.size xs.length (.slice (some A0) xs.length xs.length)).run P w.drew = .ok cells.toArray w.drew :=
        run_firstCells_some (P := P) w.drew i0.size xs.length A0 xs.length xs.length cells hcl (fun j q hq => hcells j q hq)
      have hr := Go.Lib.run_append_grow_zeros (P := P) w t tn o.type e i0 zv0 k kn (sliceTy_sound ht) (intTy_sound htn) hi0 hzv0 (some A0) xs.length xs.length cells hold m hpos' (by omega) (by omega) (by omega) (by omega) (growslice_fits (by omega) (by rw [hbi]; exact hbytes))
      have hge := grownCap_ge w (xs.length + m) xs.length e
      have hcm' := grownCap_le_maxLen w (xs.length + m) xs.length e (by unfold maxLen; omega)
      have hzl : (Builtin.zeroCells zv0.cells m).toList.length = m * i0.size := by rw [Array.length_toList, size_zeroCells, hzc']
      have hlenA : (cells ++ (Builtin.zeroCells zv0.cells m).toList).length = (xs.length + m) * i0.size := by rw [List.length_append, hcl, hzl, Nat.add_mul]
      refine ⟨_, _, hr, ⟨hlenA, .inr ⟨w.heap.size, _, _, (0, 0), rfl, hS.below.size, heap_alloc_new w.drew _, noFz_zero _, hge, hcm', ?_, ?_⟩⟩, rfl, rfl, rfl, rfl, by simp, ⟨hpos', rfl, fun j hj => heap_alloc_old w.drew _ j hj⟩⟩
      · simp only [Array.size_append, List.size_toArray, size_zeroCells, hzc', hcl, ← Nat.add_mul]
        congr 1; omega
      · simp only [Array.toList_append, List.append_assoc]
        rw [← List.append_assoc, ← hlenA]
        exact List.take_left)
  obtain ⟨u', w', g', hrun, hle, hS', hrep⟩ := key
  rw [hl2] at hS'
  unfold runsTo
  have hexec : (execOp a.eval o).run P w = .ok (.value u') w' := by
    rw [he]
    simp [builtin, hxu, e2, hrun]
  rw [hexec]
  exact ⟨g', hle, hS', hrep⟩
end
end Go.Ab

/- Code: the walk of a body at the level of values (aw), loops, calls by contract (ACall), and that a contract follows from the walk of the body. -/
namespace Go.Ab
open Go.RowKit

/-! ### An operation, by a function -/
def bytesOf : List AV → Option (List UInt8)
  | [] => some []
  | .lit (.int .u8 n) :: r => if 0 ≤ n ∧ n < 256 then (bytesOf r).map (UInt8.ofNat n.toNat :: ·) else none
  | _ :: _ => none

theorem bytesOf_sound : ∀ {xs : List AV} {bs : List UInt8}, bytesOf xs = some bs → xs = bs.map byteAV
  | [], bs, h => by simp [bytesOf] at h; subst h; rfl
  | .lit (.int .u8 n) :: r, bs, h => by
    simp only [bytesOf] at h
    split at h
    · rename_i hn
      cases hr : bytesOf r with
      | none => rw [hr] at h; cases h
      | some q =>
        rw [hr] at h
        cases h
        rw [bytesOf_sound hr]
        simp only [List.map_cons, byteAV]
        congr 3
        rw [UInt8.toNat_ofNat']
        omega
    · cases h
  | .any :: _, _, h => by simp [bytesOf] at h
  | .nils :: _, _, h => by simp [bytesOf] at h
  | .slice _ _ :: _, _, h => by simp [bytesOf] at h
  | .agg _ :: _, _, h => by simp [bytesOf] at h
  | .ptr _ _ _ :: _, _, h => by simp [bytesOf] at h
  | .view _ :: _, _, h => by simp [bytesOf] at h
  | .fn _ _ :: _, _, h => by simp [bytesOf] at h
  | .tup _ :: _, _, h => by simp [bytesOf] at h
  | .lit (.bool _) :: _, _, h => by simp [bytesOf] at h
  | .lit (.float _ _) :: _, _, h => by simp [bytesOf] at h
  | .lit (.complex _ _ _) :: _, _, h => by simp [bytesOf] at h
  | .lit (.string _) :: _, _, h => by simp [bytesOf] at h
  | .lit (.pointer _) :: _, _, h => by simp [bytesOf] at h
  | .lit (.slice _ _ _) :: _, _, h => by simp [bytesOf] at h
  | .lit (.map _) :: _, _, h => by simp [bytesOf] at h
  | .lit (.chan _) :: _, _, h => by simp [bytesOf] at h
  | .lit (.func _ _ _) :: _, _, h => by simp [bytesOf] at h
  | .lit .nilFunc :: _, _, h => by simp [bytesOf] at h
  | .lit (.iface _ _) :: _, _, h => by simp [bytesOf] at h
  | .lit .nilIface :: _, _, h => by simp [bytesOf] at h
  | .lit (.agg _) :: _, _, h => by simp [bytesOf] at h
  | .lit (.tuple _) :: _, _, h => by simp [bytesOf] at h
  | .lit (.int .u16 _) :: _, _, h => by simp [bytesOf] at h
  | .lit (.int .u32 _) :: _, _, h => by simp [bytesOf] at h
  | .lit (.int .u64 _) :: _, _, h => by simp [bytesOf] at h
  | .lit (.int .i8 _) :: _, _, h => by simp [bytesOf] at h
  | .lit (.int .i16 _) :: _, _, h => by simp [bytesOf] at h
  | .lit (.int .i32 _) :: _, _, h => by simp [bytesOf] at h
  | .lit (.int .i64 _) :: _, _, h => by simp [bytesOf] at h

/-- What a slice's type is made of: the element's type, its cells, its bytes, its zero. -/
def sliceInfo (P : Program) (t : TypeId) : Option (TypeId × Nat × Nat × AV) :=
  match sliceTy P t with
  | some e => match P.info? e, ztree P e with
    | some i, some z => if z.sz == i.size && (0 < i.size : Bool) then some (e, i.size, i.bytes, z) else none
    | _, _ => none
  | none => none

theorem sliceInfo_sound {P : Program} {t e : TypeId} {size bytes : Nat} {z : AV} (h : sliceInfo P t = some (e, size, bytes, z)) :
    sliceTy P t = some e ∧ sizeIs P e size = true ∧ bytesIs P e bytes = true ∧ ztree P e = some z ∧ z.sz = size ∧ 0 < size := by
  unfold sliceInfo at h
  split at h
  · rename_i e' he
    split at h
    · rename_i i z' hi hz
      split at h
      · rename_i hc
        cases h
        simp at hc
        exact ⟨he, by simp [sizeIs, hi], by simp [bytesIs, hi], hz, hc.1, hc.2⟩
      · cases h
    · cases h
  · cases h

def tyInfo (P : Program) (t : TypeId) : Option (Bool × Nat) :=
  match P.underlying t, P.info? t with
  | some d, some i => some (aggDesc d, i.size)
  | _, _ => none

theorem tyInfo_sound {P : Program} {t : TypeId} {a : Bool} {n : Nat} (h : tyInfo P t = some (a, n)) : tyIs P t a n = true ∧ sizeIs P t n = true := by
  unfold tyInfo at h
  split at h
  · rename_i d i hd hi
    cases h
    simp [tyIs, sizeIs, hd, hi]
  · cases h

def arrInfo (P : Program) (t : TypeId) : Option (Nat × TypeId × Nat) :=
  match arrTy P t with
  | some (n, e) => match P.info? e with
    | some i => some (n, e, i.size)
    | none => none
  | none => none

theorem arrInfo_sound {P : Program} {t e : TypeId} {n size : Nat} (h : arrInfo P t = some (n, e, size)) : arrTy P t = some (n, e) ∧ sizeIs P e size = true := by
  unfold arrInfo at h
  split at h
  · rename_i n' e' he
    split at h
    · rename_i i hi
      cases h
      exact ⟨he, by simp [sizeIs, hi]⟩
    · cases h
  · cases h

def evBox (σ : Nat → Ent) (i : Nat) : Option (TypeId × AV × Bool) :=
  match σ i with
  | .box t x => some (t, x, true)
  | .fbox t x => some (t, x, false)
  | _ => none

def evPick (s : Slots) (c x y : Operand) : Option Step :=
  match aeval s c with
  | .lit (.bool t) => some ⟨[], pickAV t (aeval s x) (aeval s y), []⟩
  | _ => none

def evExtract (s : Slots) (x : Operand) (i : Nat) : Option Step :=
  match aeval s x with
  | .tup xs => match xs[i]? with
    | some y => some ⟨[], y, []⟩
    | none => none
  | _ => none

def evNilCheck (s : Slots) (x : Operand) : Option Step :=
  match aeval s x with
  | .ptr i p q => some ⟨[], .ptr i p q, []⟩
  | .view y => some ⟨[], .view y, []⟩
  | .fn f xs => some ⟨[], .fn f xs, []⟩
  | _ => none

def evMakeFunc (s : Slots) (fn : Fn) (first : List Operand) (cap : Array Operand) : Option Step :=
  match fn, first with
  | .func f, [] => some ⟨[], .fn f (cap.toList.map (aeval s)), []⟩
  | _, _ => none

def evBin (P : Program) (op : BinOp) (t : TypeId) (u v : AV) : Option Step :=
  match u, v with
  | .lit u, .lit v => match litBin P op t u v with
    | some r => some ⟨[], .lit r, []⟩
    | none => match evNilEq P op t (.lit u) (.lit v) with
      | some b => some ⟨[], .lit (.bool b), []⟩
      | none => none
  | .agg xs, .agg ys => match evEqA P op t (.agg xs) (.agg ys) with
    | some b => some ⟨[], .lit (.bool b), []⟩
    | none => none
  | u, v => match evNilEq P op t u v with
    | some b => some ⟨[], .lit (.bool b), []⟩
    | none => none

def evUn (op : UnOp) (u : AV) : Option Step :=
  match u with
  | .lit u => match litUn op u with
    | some r => some ⟨[], .lit r, []⟩
    | none => none
  | _ => none

def evConvert (P : Program) (src dst : TypeId) (id : Nat) (u : AV) : Option Step :=
  match u with
  | .lit (.int _ n) => match intTy P src, intTy P dst with
    | some _, some k' => some ⟨[], .lit (.int k' (k'.wrap n)), []⟩
    | _, _ => none
  | .lit (.string b) => if strTy P src && strTy P dst then some ⟨[], .lit (.string b), []⟩ else match sliceTy P dst with
    | some e => if strTy P src = true ∧ byteTy P e = true ∧ sizeIs P e 1 = true ∧ b.size ≤ 9223372036854775807 then some ⟨[], .slice (some id) (b.data.toList.map byteAV), [(id, .row e 1 b.size)]⟩ else none
    | none => none
  | .nils => match sliceTy P src with
    | some e => if byteTy P e && strTy P dst then some ⟨[], .lit (strV []), []⟩ else none
    | none => none
  | .slice _ xs => match sliceTy P src, bytesOf xs with
    | some e, some bs => if byteTy P e && strTy P dst then some ⟨[], .lit (strV bs), []⟩ else none
    | _, _ => none
  | _ => none

def evIndex (P : Program) (t : TypeId) (u v : AV) : Option Step :=
  match u, v with
  | .lit (.string b), .lit (.int _ n) => if strTy P t = true ∧ 0 ≤ n then match b.data.toList[n.toNat]? with
    | some c => some ⟨[], .lit (.int .u8 c.toNat), []⟩
    | none => none
    else none
  | _, _ => none

def evMrow (σ : Nat → Ent) (i ver : Nat) : Option (TypeId × Nat × List AV) :=
  match σ i with
  | .mrow v e size xs => if v = ver then some (e, size, xs) else none
  | _ => none

def evFieldAddr (P : Program) (σ : Nat → Ent) (t : TypeId) (u : AV) (f : Nat) : Option Step :=
  match u, fieldOff P t f with
  | .ptr i p q, some k => some ⟨[], .ptr i (p ++ [f]) (q + k), []⟩
  | .mp i ver p q, some k => match evMrow σ i ver with
    | some (e, size, xs) => some ⟨[(i, .mrow ver e size xs)], .mp i ver (p ++ [f]) (q + k), []⟩
    | none => none
  | .view (.agg xs), some k => match xs[f]? with
    | some y => if AV.szl (xs.take f) = k then some ⟨[], .view y, []⟩ else none
    | none => none
  | _, _ => none

def evLoad (P : Program) (σ : Nat → Ent) (t : TypeId) (u : AV) : Option Step :=
  match u with
  | .ptr i p q => match evBox σ i with
    | some (_, c, _) => match c.get p with
      | some y => if c.offs p = q ∧ tyInfo P t = some (y.isAgg, y.sz) then some ⟨[(i, σ i)], y, []⟩ else none
      | none => none
    | none => none
  | .view y => if tyInfo P t = some (y.isAgg, y.sz) then some ⟨[], y, []⟩ else none
  | .mp i ver p q => match evMrow σ i ver with
    | some (e, size, xs) => match (AV.agg xs).get p with
      | some y => if (AV.agg xs).offs p = q ∧ tyInfo P t = some (y.isAgg, y.sz) then some ⟨[(i, .mrow ver e size xs)], y, []⟩ else none
      | none => none
    | none => none
  | _ => none

def evStore (P : Program) (σ : Nat → Ent) (t : TypeId) (u z : AV) : Option Step :=
  match u with
  | .ptr i p q => match evBox σ i with
    | some (bt, c, true) => match c.get p, tyInfo P t with
      | some old, some (_, n) => if c.offs p = q ∧ old.sz = z.sz ∧ n = z.sz ∧ z.cell = true then some ⟨[(i, .box bt c)], .tup [], [(i, .box bt (c.put p z))]⟩ else none
      | _, _ => none
    | _ => none
  | .mp i ver (j :: p) q => match evMrow σ i ver with
    | some (e, size, xs) => match (AV.agg xs).get (j :: p), tyInfo P t, (AV.agg xs).put (j :: p) z with
      | some old, some (_, n), .agg xs' => if (AV.agg xs).offs (j :: p) = q ∧ old.sz = z.sz ∧ n = z.sz ∧ z.cell = true then some ⟨[(i, .mrow ver e size xs)], .tup [], [(i, .mrow ver e size xs')]⟩ else none
      | _, _, _ => none
    | none => none
  | _ => none

def evAlloc (P : Program) (t : TypeId) (id : Nat) : Option Step :=
  match ztree P t with
  | some z => some ⟨[], .ptr id [] 0, [(id, .box t z)]⟩
  | none => none

def evIndexAddr (P : Program) (σ : Nat → Ent) (t : TypeId) (u v : AV) : Option Step :=
  match u, v with
  | .clip xs, .lit (.int _ n) => if 0 ≤ n then match xs[n.toNat]?, sliceInfo P t with
    | some y, some (_, size, _, _) => if y.sz = size then some ⟨[], .view y, []⟩ else none
    | _, _ => none
    else none
  | .ms r ver size lo len, .lit (.int _ n) => match evMrow σ r ver, sliceInfo P t with
    | some (e, size', xs), some (e', size'', _, _) => if 0 ≤ n ∧ n.toNat < len ∧ size' = size ∧ size'' = size ∧ e' = e then some ⟨[(r, .mrow ver e size xs)], .mp r ver [lo + n.toNat] ((lo + n.toNat) * size), []⟩ else none
    | _, _ => none
  | .bs r p lo q len, .lit (.int _ n) => match sliceInfo P t with
    | some (_, size, _, _) => if 0 ≤ n ∧ n.toNat < len then some ⟨[], .ptr r (p ++ [lo + n.toNat]) (q + n.toNat * size), []⟩ else none
    | none => none
  | .mp j ver p q, .lit (.int _ n) => match evMrow σ j ver, arrInfo P t with
    | some (e, size', xs), some (len, _, size) => if 0 ≤ n ∧ n.toNat < len then some ⟨[(j, .mrow ver e size' xs)], .mp j ver (p ++ [n.toNat]) (q + n.toNat * size), []⟩ else none
    | _, _ => none
  | .slice _ xs, .lit (.int _ n) => if 0 ≤ n then match xs[n.toNat]?, sliceInfo P t with
    | some y, some (_, size, _, _) => if y.sz = size then some ⟨[], .view y, []⟩ else none
    | _, _ => none
    else none
  | .ptr j p q, .lit (.int _ n) => match arrInfo P t with
    | some (len, _, size) => if 0 ≤ n ∧ n.toNat < len then some ⟨[], .ptr j (p ++ [n.toNat]) (q + n.toNat * size), []⟩ else none
    | none => none
  | .view (.agg xs), .lit (.int _ n) => match arrInfo P t, xs[n.toNat]? with
    | some (len, _, size), some y => if 0 ≤ n ∧ n.toNat < len ∧ AV.szl (xs.take n.toNat) = n.toNat * size then some ⟨[], .view y, []⟩ else none
    | _, _ => none
  | _, _ => none

def evBuild (P : Program) (t : TypeId) (parts : List (Nat × AV)) : Option Step :=
  match ztree P t, splaces P t, arrInfo P t with
  | some (.agg zs), some pl, _ => match fillA (fun (i : Nat) => pl[i]?) zs parts with
    | some ys => some ⟨[], .agg ys, []⟩
    | none => none
  | some (.agg zs), none, some (_, _, size) => match fillA (fun i => some (i * size, size)) zs parts with
    | some ys => some ⟨[], .agg ys, []⟩
    | none => none
  | _, _, _ => none

def evBuildSlice (P : Program) (t : TypeId) (len id : Nat) (parts : List (Nat × AV)) : Option Step :=
  match sliceInfo P t with
  | some (e, size, _, z) => match fillA (fun i => some (i * size, size)) (List.replicate len z) parts with
    | some ys => if len * size ≤ 16777216 ∧ ys.length = len ∧ ys.all (fun x => x.sz == size) = true then some ⟨[], .slice (some id) ys, [(id, .row e size len)]⟩ else none
    | none => none
  | none => none

def evSliceBox (P : Program) (s : Slots) (σ : Nat → Ent) (t : TypeId) (i : Nat) (p : List Nat) (q : Nat) (lo hi : Option Operand) : Option Step :=
  match evBox σ i, ptrArr P t with
  | some (bt, c, b), some (n, _, size) => match c.get p, bnd s 0 lo, bnd s n hi with
    | some (.agg ys), some l, some h => if c.offs p = q ∧ ys.length = n ∧ ys.all (fun y => y.sz == size) = true ∧ l ≤ h ∧ h ≤ n ∧ n ≤ 9223372036854775807 then
        some ⟨[(i, if !b then .fbox bt c else .box bt c)], .slice none ((ys.take h).drop l), if !b then [] else [(i, .fbox bt c)]⟩ else none
    | _, _, _ => none
  | _, _ => none

def evSlice (P : Program) (s : Slots) (σ : Nat → Ent) (t : TypeId) (u : AV) (lo hi mx : Option Operand) : Option Step :=
  match mx, u with
  | none, .slice _ xs => match sliceInfo P t, bnd s 0 lo, bnd s xs.length hi with
    | some (_, size, _, _), some l, some h => if l ≤ h ∧ h ≤ xs.length ∧ xs.all (fun y => y.sz == size) = true then some ⟨[], .slice none ((xs.take h).drop l), []⟩ else none
    | _, _, _ => none
  | none, .clip xs => match sliceInfo P t, bnd s 0 lo, bnd s xs.length hi with
    | some (_, size, _, _), some l, some h => if l ≤ h ∧ h ≤ xs.length ∧ xs.all (fun y => y.sz == size) = true then some ⟨[], .slice none ((xs.take h).drop l), []⟩ else none
    | _, _, _ => none
  | none, .ms r ver size l0 len => match evMrow σ r ver, sliceInfo P t, bnd s 0 lo, bnd s len hi with
    | some (e, size', xs), some (e', size'', _, _), some l, some h => if l ≤ h ∧ h ≤ len ∧ size' = size ∧ size'' = size ∧ e' = e then some ⟨[(r, .mrow ver e size xs)], .ms r ver size (l0 + l) (h - l), []⟩ else none
    | _, _, _, _ => none
  | none, .nils => match sliceInfo P t, bnd s 0 lo, bnd s 0 hi with
    | some _, some 0, some 0 => some ⟨[], .nils, []⟩
    | _, _, _ => none
  | none, .lit (.string b) => match bnd s 0 lo, bnd s b.size hi with
    | some l, some h => if strTy P t = true ∧ l ≤ h ∧ h ≤ b.size then some ⟨[], .lit (.string (b.extract l h)), []⟩ else none
    | _, _ => none
  | none, .ptr i p q => evSliceBox P s σ t i p q lo hi
  | none, .view (.agg ys) => match ptrArr P t with
    | some (n, _, size) => match bnd s 0 lo, bnd s n hi with
      | some l, some h => if ys.length = n ∧ ys.all (fun y => y.sz == size) = true ∧ l ≤ h ∧ h ≤ n ∧ n ≤ 9223372036854775807 then some ⟨[], .slice none ((ys.take h).drop l), []⟩ else none
      | _, _ => none
    | none => none
  | some m, .slice _ xs => match sliceInfo P t, bnd s 0 lo, bnd s 0 hi, bnd s 0 (some m) with
    | some (_, size, _, _), some l, some h, some h' => if hi.isSome = true ∧ h' = h ∧ l ≤ h ∧ h ≤ xs.length ∧ xs.all (fun y => y.sz == size) = true then some ⟨[], .clip ((xs.take h).drop l), []⟩ else none
    | _, _, _, _ => none
  | some m, .clip xs => match sliceInfo P t, bnd s 0 lo, bnd s 0 hi, bnd s 0 (some m) with
    | some (_, size, _, _), some l, some h, some h' => if hi.isSome = true ∧ h' = h ∧ l ≤ h ∧ h ≤ xs.length ∧ xs.all (fun y => y.sz == size) = true then some ⟨[], .clip ((xs.take h).drop l), []⟩ else none
    | _, _, _, _ => none
  | some m, .nils => match sliceInfo P t, bnd s 0 lo, bnd s 0 hi, bnd s 0 (some m) with
    | some _, some 0, some 0, some 0 => if hi.isSome = true then some ⟨[], .clip [], []⟩ else none
    | _, _, _, _ => none
  | _, _ => none

def evMakeSlice (P : Program) (t : TypeId) (id : Nat) (u v : AV) : Option Step :=
  match sliceInfo P t, u, v with
  | some (e, size, bytes, z), .lit (.int _ n), .lit (.int _ c) => if 0 ≤ n ∧ n ≤ c ∧ c ≤ 140737488355328 ∧ bytes * c ≤ 140737488355328 then some ⟨[], .slice (some id) (List.replicate n.toNat z), [(id, .row e size n.toNat)]⟩ else none
  | _, _, _ => none

def evLen (P : Program) (t : TypeId) (u : AV) : Option Step :=
  match u with
  | .slice _ xs => if (sliceInfo P t).isSome then some ⟨[], .lit (.int .i64 xs.length), []⟩ else none
  | .nils => if (sliceInfo P t).isSome then some ⟨[], .lit (.int .i64 0), []⟩ else none
  | .clip xs => if (sliceInfo P t).isSome then some ⟨[], .lit (.int .i64 xs.length), []⟩ else none
  | .ms _ _ _ _ len => if (sliceInfo P t).isSome then some ⟨[], .lit (.int .i64 len), []⟩ else none
  | .bs _ _ _ _ len => if (sliceInfo P t).isSome then some ⟨[], .lit (.int .i64 len), []⟩ else none
  | .lit (.string b) => if strTy P t then some ⟨[], .lit (.int .i64 b.size), []⟩ else none
  | _ => none

def evMin (u v : AV) : Option Step :=
  match u, v with
  | .lit (.int k m), .lit (.int _ n) => some ⟨[], .lit (.int k (if n < m then n else m)), []⟩
  | _, _ => none

def evMax (u v : AV) : Option Step :=
  match u, v with
  | .lit (.int k m), .lit (.int _ n) => some ⟨[], .lit (.int k (if n > m then n else m)), []⟩
  | _, _ => none

def evAppend (P : Program) (σ : Nat → Ent) (id : Nat) (t : TypeId) (u v : AV) : Option Step :=
  match sliceInfo P t, u, v.elems with
  | some (e, size, bytes, _), .slice (some r) xs, some ys => match σ r with
    | .row e' size' n => if e' = e ∧ size' = size ∧ n = xs.length ∧ xs.all (fun x => x.sz == size) = true ∧ ys.all (fun x => x.sz == size && x.cell) = true ∧ (xs.length + ys.length) * bytes ≤ 140737488355328 ∧ xs.length + ys.length ≤ 140737488355328 then
      some ⟨[(r, .row e size xs.length)], .slice (some r) (xs ++ ys), [(r, .row e size (xs.length + ys.length))]⟩ else none
    | _ => none
  | some (e, size, bytes, _), .nils, some ys => if ys.all (fun x => x.sz == size && x.cell) = true ∧ ys.length * bytes ≤ 140737488355328 ∧ ys.length ≤ 140737488355328 then
      some ⟨[], .slice (some id) ys, [(id, .row e size ys.length)]⟩ else none
  | some (e, size, bytes, _), .clip xs, some ys => if xs.all (fun x => x.sz == size) = true ∧ ys.all (fun x => x.sz == size && x.cell) = true ∧ (xs.length + ys.length) * bytes ≤ 140737488355328 ∧ xs.length + ys.length ≤ 140737488355328 then
      some ⟨[], .slice (some id) (xs ++ ys), [(id, .row e size (xs.length + ys.length))]⟩ else none
  | some (e, size, bytes, _), .ms r ver size' lo k, some ys => match evMrow σ r ver with
    | some (e', size'', xs) => if e' = e ∧ size' = size ∧ size'' = size ∧ lo = 0 ∧ k ≤ xs.length ∧ ys.all (fun x => x.sz == size && x.cell) = true ∧ (k + ys.length) * bytes ≤ 140737488355328 ∧ k + ys.length ≤ 140737488355328 then
      some ⟨[(r, .mrow ver e size xs)], .ms r (ver + 1) size 0 (k + ys.length), [(r, .mrow (ver + 1) e size (xs.take k ++ ys))]⟩ else none
    | none => none
  | _, _, _ => none

def evAppendZ (P : Program) (σ : Nat → Ent) (t tn : TypeId) (u v : AV) : Option Step :=
  match sliceInfo P t, intTy P tn, u, v with
  | some (e, size, bytes, z), some _, .slice (some r) xs, .lit (.int _ m) => match σ r with
    | .row e' size' n => if e' = e ∧ size' = size ∧ n = xs.length ∧ 0 ≤ m ∧ z.cell = true ∧ xs.all (fun x => x.sz == size) = true ∧ (xs.length + m.toNat) * bytes ≤ 140737488355328 ∧ xs.length + m.toNat ≤ 140737488355328 then
      some ⟨[(r, .row e size xs.length)], .slice (some r) (xs ++ List.replicate m.toNat z), [(r, .row e size (xs.length + m.toNat))]⟩ else none
    | _ => none
  | _, _, _, _ => none

def evCopy (P : Program) (σ : Nat → Ent) (t : TypeId) (u v : AV) : Option Step :=
  match sliceInfo P t, u, copySrc v with
  | some (e, size, _, _), .ms r ver size' lo len, some ys => match evMrow σ r ver with
    | some (e', size'', xs) => if e' = e ∧ size' = size ∧ size'' = size ∧ lo + len ≤ xs.length ∧ ys.all (fun x => x.sz == size && x.cell) = true then
      some ⟨[(r, .mrow ver e size xs)], .lit (.int .i64 (Nat.min ys.length len : Nat)), [(r, .mrow ver e size (xs.take lo ++ ys.take (Nat.min ys.length len) ++ xs.drop (lo + Nat.min ys.length len)))]⟩ else none
    | none => none
  | some (_, size, _, _), .bs r p lo q len, some ys => match evBox σ r with
    | some (bt, c, true) => match c.get p with
      | some (.agg xs) => if c.offs p + lo * size = q ∧ xs.all (fun x => x.sz == size) = true ∧ lo + len ≤ xs.length ∧ ys.all (fun x => x.sz == size && x.cell) = true then
        some ⟨[(r, .box bt c)], .lit (.int .i64 (Nat.min ys.length len : Nat)), [(r, .box bt (c.put p (.agg (xs.take lo ++ ys.take (Nat.min ys.length len) ++ xs.drop (lo + Nat.min ys.length len)))))]⟩ else none
      | _ => none
    | _ => none
  | _, _, _ => none

def evClear (P : Program) (σ : Nat → Ent) (t : TypeId) (u : AV) : Option Step :=
  match sliceInfo P t, u with
  | some (e, size, _, z), .ms r ver size' lo len => match evMrow σ r ver with
    | some (e', size'', xs) => if e' = e ∧ size' = size ∧ size'' = size ∧ lo + len ≤ xs.length ∧ z.cell = true then
      some ⟨[(r, .mrow ver e size xs)], .tup [], [(r, .mrow ver e size (xs.take lo ++ (List.replicate len z).take len ++ xs.drop (lo + len)))]⟩ else none
    | none => none
  | _, _ => none

def evBuiltin (P : Program) (s : Slots) (σ : Nat → Ent) (id : Nat) (b : Builtin) (args : List Operand) (ts : List TypeId) : Option Step :=
  match b, args, ts with
  | .len, [x], [t] => evLen P t (aeval s x)
  | .min, [x, y], _ => evMin (aeval s x) (aeval s y)
  | .max, [x, y], _ => evMax (aeval s x) (aeval s y)
  | .append, [x, y], [t, t'] => if t = t' then evAppend P σ id t (aeval s x) (aeval s y) else evAppendZ P σ t t' (aeval s x) (aeval s y)
  | .copy, [x, y], [t, _] => evCopy P σ t (aeval s x) (aeval s y)
  | .clear, [x], [t] => evClear P σ t (aeval s x)
  | _, _, _ => none

def evCall (P : Program) (s : Slots) (σ : Nat → Ent) (id : Nat) (c : Call) : Option Step :=
  match c.callee with
  | .builtin b => evBuiltin P s σ id b c.args.toList c.argTypes.toList
  | _ => none

def evalOp (P : Program) (op : Op) (s : Slots) (σ : Nat → Ent) (id : Nat) : Option Step :=
  match op with
  | .move x => some ⟨[], aeval s x, []⟩
  | .assign x => some ⟨[], aeval s x, []⟩
  | .pick c x y => evPick s c x y
  | .extract x i => evExtract s x i
  | .nilCheck x => evNilCheck s x
  | .makeFunc fn first cap => evMakeFunc s fn first.toList cap
  | .binOp op t x y _ => evBin P op t (aeval s x) (aeval s y)
  | .unOp op _ x => evUn op (aeval s x)
  | .convert src dst x => evConvert P src dst id (aeval s x)
  | .index t x i => evIndex P t (aeval s x) (aeval s i)
  | .fieldAddr t x f => evFieldAddr P σ t (aeval s x) f
  | .load t x => evLoad P σ t (aeval s x)
  | .store t x y => evStore P σ t (aeval s x) (aeval s y)
  | .box t x => some ⟨[], .ptr id [] 0, [(id, .box t (aeval s x))]⟩
  | .alloc t => evAlloc P t id
  | .indexAddr t x i => evIndexAddr P σ t (aeval s x) (aeval s i)
  | .build t parts => evBuild P t (parts.toList.map fun p => (p.1, aeval s p.2))
  | .buildSlice t len parts => evBuildSlice P t len id (parts.toList.map fun p => (p.1, aeval s p.2))
  | .slice t x lo hi mx => evSlice P s σ t (aeval s x) lo hi mx
  | .makeInterface t x => if P.concrete t then some ⟨[], .iface t (aeval s x), []⟩ else none
  | .typeAssert x _ t true => (assertT P t (aeval s x)).map fun v => ⟨[], v, []⟩
  | .makeSlice t x y => evMakeSlice P t id (aeval s x) (aeval s y)
  | .call c => evCall P s σ id c
  | _ => none

theorem evBox_sound {σ : Nat → Ent} {i : Nat} {t : TypeId} {c : AV} {b : Bool} (h : evBox σ i = some (t, c, b)) : (b = true ∧ σ i = .box t c) ∨ (b = false ∧ σ i = .fbox t c) := by
  unfold evBox at h
  split at h
  · rename_i h'; cases h; exact .inl ⟨rfl, h'⟩
  · rename_i h'; cases h; exact .inr ⟨rfl, h'⟩
  · cases h

theorem evMrow_sound {σ : Nat → Ent} {i ver : Nat} {e : TypeId} {size : Nat} {xs : List AV} (h : evMrow σ i ver = some (e, size, xs)) : σ i = .mrow ver e size xs := by
  unfold evMrow at h
  split at h
  · rename_i h'
    split at h
    · rename_i hv; subst hv; cases h; exact h'
    · cases h
  · cases h

def Gives (P : Program) (o : Oper) (s : Slots) (σ : Nat → Ent) (id : Nat) (st : Step) : Prop := OpHolds P o s id st.pre st.v st.post ∧ ∀ p ∈ st.pre, σ p.1 = p.2

theorem Gives.mk0 {P : Program} {o : Oper} {s : Slots} {σ : Nat → Ent} {id : Nat} {v : AV} {post : Foot} (h : OpHolds P o s id [] v post) : Gives P o s σ id ⟨[], v, post⟩ := ⟨h, fun p hp => (by cases hp)⟩

theorem toList_one {α : Type} {a : Array α} {x : α} (h : a.toList = [x]) : a = #[x] := by cases a; simp at h; simp [h]
theorem toList_two {α : Type} {a : Array α} {x y : α} (h : a.toList = [x, y]) : a = #[x, y] := by cases a; simp at h; simp [h]
theorem toList_nil {α : Type} {a : Array α} (h : a.toList = []) : a = #[] := by cases a; simp at h; simp [h]

section
variable {P : Program} {o : Oper} {s : Slots} {σ : Nat → Ent} {id : Nat} {st : Step}

theorem evAppend_sound {t : TypeId} {x y : Operand} (ho : o.op = .call { callee := .builtin .append, args := #[x, y], argTypes := #[t, t] }) (h : evAppend P σ id t (aeval s x) (aeval s y) = some st) : Gives P o s σ id st := by
  unfold evAppend at h
  split at h
  · rename_i ht hx hy
    split at h
    · rename_i hr
      split at h
      · rename_i hc
        cases h
        obtain ⟨k1, k2, k3, k4, k5, k6⟩ := sliceInfo_sound ht
        obtain ⟨c1, c2, c3, c4, c5, c6, c7⟩ := hc
        subst c1; subst c2; subst c3
        exact ⟨holds_append_own ho k1 k2 k3 k4 k5 hx rfl hy c4 c5 c6 (by unfold maxLen; omega), fun p hp => by simp at hp; subst hp; exact hr⟩
      · cases h
    · cases h
  · rename_i ht hx hy
    split at h
    · rename_i hc
      cases h
      obtain ⟨k1, k2, k3, k4, k5, k6⟩ := sliceInfo_sound ht
      exact .mk0 (holds_append_nils ho k1 k2 k3 k4 k5 hx rfl hy hc.1 hc.2.1 (by unfold maxLen; omega))
    · cases h
  · rename_i ht hx hy
    split at h
    · rename_i hc
      cases h
      obtain ⟨k1, k2, k3, k4, k5, k6⟩ := sliceInfo_sound ht
      exact .mk0 (holds_append_clip ho k1 k2 k3 k4 k5 hx rfl hy hc.1 hc.2.1 hc.2.2.1 (by unfold maxLen; omega))
    · cases h
  · rename_i ht hx hy
    split at h
    · rename_i hm
      split at h
      · rename_i hc
        cases h
        obtain ⟨k1, k2, k3, k4, k5, k6⟩ := sliceInfo_sound ht
        obtain ⟨c1, c2, c3, c4, c5, c6, c7, c8⟩ := hc
        subst c1; subst c2; subst c3; subst c4
        exact ⟨holds_append_ms ho k1 k2 k3 k4 k5 hx c5 rfl hy c6 c7 (by unfold maxLen; omega), fun p hp => by simp at hp; subst hp; exact evMrow_sound hm⟩
      · cases h
    · cases h
  · cases h

theorem evAppendZ_sound {t tn : TypeId} {x y : Operand} (ho : o.op = .call { callee := .builtin .append, args := #[x, y], argTypes := #[t, tn] }) (h : evAppendZ P σ t tn (aeval s x) (aeval s y) = some st) : Gives P o s σ id st := by
  unfold evAppendZ at h
  split at h
  · rename_i ht htn hx hy
    split at h
    · rename_i hr
      split at h
      · rename_i hc
        cases h
        obtain ⟨k1, k2, k3, k4, k5, k6⟩ := sliceInfo_sound ht
        obtain ⟨c1, c2, c3, c4, c5, c6, c7, c8⟩ := hc
        subst c1; subst c2; subst c3
        exact ⟨holds_append_zeros ho k1 htn k2 k3 k4 k5 c5 k6 hx hy c4 c6 c7 c8, fun p hp => by simp at hp; subst hp; exact hr⟩
      · cases h
    · cases h
  · cases h

theorem evCopy_sound {t ts : TypeId} {x y : Operand} (ho : o.op = .call { callee := .builtin .copy, args := #[x, y], argTypes := #[t, ts] }) (h : evCopy P σ t (aeval s x) (aeval s y) = some st) : Gives P o s σ id st := by
  unfold evCopy at h
  split at h
  · rename_i ht hx hy
    split at h
    · rename_i hm
      split at h
      · rename_i hc
        cases h
        obtain ⟨k1, k2, k3, k4, k5, k6⟩ := sliceInfo_sound ht
        obtain ⟨c1, c2, c3, c4, c5⟩ := hc
        subst c1; subst c2; subst c3
        exact ⟨holds_copy_ms ho k1 k2 hx c4 rfl hy c5 rfl, fun p hp => by simp at hp; subst hp; exact evMrow_sound hm⟩
      · cases h
    · cases h
  · rename_i ht hx hy
    split at h
    · rename_i hb
      split at h
      · rename_i hg
        split at h
        · rename_i hc
          cases h
          obtain ⟨k1, k2, k3, k4, k5, k6⟩ := sliceInfo_sound ht
          rcases evBox_sound hb with ⟨_, he⟩ | ⟨hf, _⟩
          · exact ⟨holds_copy_bs ho k1 k2 hx hg hc.1 hc.2.1 hc.2.2.1 rfl hy hc.2.2.2 rfl, fun p hp => by simp at hp; subst hp; exact he⟩
          · cases hf
        · cases h
      · cases h
    · cases h
  · cases h

theorem evClear_sound {t : TypeId} {x : Operand} (ho : o.op = .call { callee := .builtin .clear, args := #[x], argTypes := #[t] }) (h : evClear P σ t (aeval s x) = some st) : Gives P o s σ id st := by
  unfold evClear at h
  split at h
  · rename_i ht hx
    split at h
    · rename_i hm
      split at h
      · rename_i hc
        cases h
        obtain ⟨k1, k2, k3, k4, k5, k6⟩ := sliceInfo_sound ht
        obtain ⟨c1, c2, c3, c4, c5⟩ := hc
        subst c1; subst c2; subst c3
        exact ⟨holds_clear_ms ho k1 k2 k4 k5 c5 k6 hx c4, fun p hp => by simp at hp; subst hp; exact evMrow_sound hm⟩
      · cases h
    · cases h
  · cases h

theorem evBuiltin_sound {b : Builtin} {args : Array Operand} {ts : Array TypeId} (ho : o.op = .call { callee := .builtin b, args := args, argTypes := ts }) (h : evBuiltin P s σ id b args.toList ts.toList = some st) : Gives P o s σ id st := by
  unfold evBuiltin at h
  split at h
  · rename_i x t ha ht
    rw [toList_one ha, toList_one ht] at ho
    unfold evLen at h
    split at h
    · rename_i hx
      split at h
      · rename_i hc
        cases h
        obtain ⟨⟨e, size, bytes, z⟩, ht⟩ := Option.isSome_iff_exists.1 hc
        exact .mk0 (holds_len_slice ho (sliceInfo_sound ht).1 (by rw [hx]; exact AV.le_refl _))
      · cases h
    · rename_i hx
      split at h
      · rename_i hc
        cases h
        obtain ⟨⟨e, size, bytes, z⟩, ht⟩ := Option.isSome_iff_exists.1 hc
        exact .mk0 (holds_len_nils ho (sliceInfo_sound ht).1 hx)
      · cases h
    · rename_i hx
      split at h
      · rename_i hc
        cases h
        obtain ⟨⟨e, size, bytes, z⟩, ht⟩ := Option.isSome_iff_exists.1 hc
        exact .mk0 (holds_len_slice ho (sliceInfo_sound ht).1 (by rw [hx]; exact AV.le_clip _))
      · cases h
    · rename_i hx
      split at h
      · rename_i hc
        cases h
        obtain ⟨⟨e, size, bytes, z⟩, ht⟩ := Option.isSome_iff_exists.1 hc
        exact .mk0 (holds_len_ms ho (sliceInfo_sound ht).1 hx)
      · cases h
    · rename_i hx
      split at h
      · rename_i hc
        cases h
        obtain ⟨⟨e, size, bytes, z⟩, ht⟩ := Option.isSome_iff_exists.1 hc
        exact .mk0 (holds_len_bs ho (sliceInfo_sound ht).1 hx)
      · cases h
    · rename_i hx
      split at h
      · rename_i hc; cases h; exact .mk0 (holds_len_str ho hc hx)
      · cases h
    · cases h
  · rename_i x y ha
    rw [toList_two ha] at ho
    unfold evMin at h
    split at h
    · rename_i hx hy; cases h; exact .mk0 (holds_min ho hx hy)
    · cases h
  · rename_i x y ha
    rw [toList_two ha] at ho
    unfold evMax at h
    split at h
    · rename_i hx hy; cases h; exact .mk0 (holds_max ho hx hy)
    · cases h
  · rename_i x y t t' ha ht
    rw [toList_two ha, toList_two ht] at ho
    split at h
    · rename_i htt
      subst htt
      exact evAppend_sound ho h
    · exact evAppendZ_sound ho h
  · rename_i x y t t' ha ht
    rw [toList_two ha, toList_two ht] at ho
    exact evCopy_sound ho h
  · rename_i x t ha ht
    rw [toList_one ha, toList_one ht] at ho
    exact evClear_sound ho h
  · cases h

theorem evConvert_sound {src dst : TypeId} {x : Operand} (ho : o.op = .convert src dst x) (h : evConvert P src dst id (aeval s x) = some st) : Gives P o s σ id st := by
  unfold evConvert at h
  split at h
  · rename_i hx
    split at h
    · rename_i h1 h2; cases h; exact .mk0 (holds_convert_int ho h1 h2 hx)
    · cases h
  · rename_i hx
    split at h
    · rename_i hc; cases h; simp only [Bool.and_eq_true] at hc; exact .mk0 (holds_convert_str ho hc.1 hc.2 hx)
    · split at h
      · rename_i hd
        split at h
        · rename_i hc
          cases h
          exact .mk0 ((holds_convert_str_bytes ho hc.1 hd hc.2.1 hc.2.2.1 hx (by unfold maxLen; omega)).freezeNew (by simp))
        · cases h
      · cases h
  · rename_i hx
    split at h
    · rename_i h1
      split at h
      · rename_i hc
        cases h
        simp only [Bool.and_eq_true] at hc
        exact .mk0 (holds_convert_bytes_le (bs := []) ho h1 hc.1 hc.2 (by rw [hx]; exact AV.le_nils0))
      · cases h
    · cases h
  · rename_i hx
    split at h
    · rename_i h1 h2
      split at h
      · rename_i hc; cases h; simp only [Bool.and_eq_true] at hc; rw [bytesOf_sound h2] at hx; exact .mk0 (holds_convert_bytes ho h1 hc.1 hc.2 hx)
      · cases h
    · cases h
  · cases h

theorem evLoad_sound {t : TypeId} {x : Operand} (ho : o.op = .load t x) (h : evLoad P σ t (aeval s x) = some st) : Gives P o s σ id st := by
  unfold evLoad at h
  split at h
  · rename_i hx
    split at h
    · rename_i hb
      split at h
      · rename_i hy
        split at h
        · rename_i hc
          cases h
          obtain ⟨h1, _⟩ := tyInfo_sound hc.2
          refine ⟨?_, fun p hp => by simp at hp; subst hp; rfl⟩
          rcases evBox_sound hb with ⟨_, he⟩ | ⟨_, he⟩
          · exact holds_load ho hx (.inl he) hy hc.1 h1
          · exact holds_load ho hx (.inr he) hy hc.1 h1
        · cases h
      · cases h
    · cases h
  · rename_i hx
    split at h
    · rename_i hc; cases h; exact .mk0 (holds_load_view ho hx (tyInfo_sound hc).1)
    · cases h
  · rename_i hx
    split at h
    · rename_i hm
      split at h
      · rename_i hy
        split at h
        · rename_i hc
          cases h
          exact ⟨holds_load_mp ho hx hy hc.1 (tyInfo_sound hc.2).1, fun p hp => by simp at hp; subst hp; exact evMrow_sound hm⟩
        · cases h
      · cases h
    · cases h
  · cases h

theorem evStore_sound {t : TypeId} {x y : Operand} (ho : o.op = .store t x y) (h : evStore P σ t (aeval s x) (aeval s y) = some st) : Gives P o s σ id st := by
  unfold evStore at h
  split at h
  · rename_i hx
    split at h
    · rename_i hb
      split at h
      · rename_i hy ht
        split at h
        · rename_i hc
          cases h
          rcases evBox_sound hb with ⟨_, he⟩ | ⟨hf, _⟩
          · exact ⟨holds_store ho hx rfl hy hc.1 hc.2.1 (by rw [← hc.2.2.1]; exact (tyInfo_sound ht).2) hc.2.2.2, fun p hp => by simp at hp; subst hp; exact he⟩
          · cases hf
        · cases h
      · cases h
    · cases h
  · rename_i hx
    split at h
    · rename_i hm
      split at h
      · rename_i hy ht hput
        split at h
        · rename_i hc
          cases h
          exact ⟨holds_store_mp ho hx rfl hy hc.1 hc.2.1 (by rw [← hc.2.2.1]; exact (tyInfo_sound ht).2) hc.2.2.2 hput, fun p hp => by simp at hp; subst hp; exact evMrow_sound hm⟩
        · cases h
      · cases h
    · cases h
  · cases h

theorem evIndexAddr_sound {t : TypeId} {x i : Operand} (ho : o.op = .indexAddr t x i) (h : evIndexAddr P σ t (aeval s x) (aeval s i) = some st) : Gives P o s σ id st := by
  unfold evIndexAddr at h
  split at h
  · rename_i hx hi
    split at h
    · rename_i hn
      split at h
      · rename_i hy ht
        split at h
        · rename_i hs
          cases h
          obtain ⟨k1, k2, _⟩ := sliceInfo_sound ht
          exact .mk0 (holds_indexAddr_slice ho k1 (by rw [hx]; exact AV.le_clip _) hi hn hy (by rw [hs]; exact k2))
        · cases h
      · cases h
    · cases h
  · rename_i hx hi
    split at h
    · rename_i hm ht
      split at h
      · rename_i hc
        cases h
        obtain ⟨k1, k2, _⟩ := sliceInfo_sound ht
        obtain ⟨c1, c2, c3, c4, c5⟩ := hc
        subst c3; subst c4; subst c5
        exact ⟨holds_indexAddr_ms ho k1 k2 hx hi c1 c2, fun p hp => by simp at hp; subst hp; exact evMrow_sound hm⟩
      · cases h
    · cases h
  · rename_i hx hi
    split at h
    · rename_i ht
      split at h
      · rename_i hc
        cases h
        obtain ⟨k1, k2, _⟩ := sliceInfo_sound ht
        exact .mk0 (holds_indexAddr_bs ho k1 k2 hx hi hc.1 hc.2)
      · cases h
    · cases h
  · rename_i hx hi
    split at h
    · rename_i hm ht
      split at h
      · rename_i hc
        cases h
        obtain ⟨k1, k2⟩ := arrInfo_sound ht
        exact ⟨holds_indexAddr_mp ho k1 k2 hx hi hc.1 hc.2, fun p hp => by simp at hp; subst hp; exact evMrow_sound hm⟩
      · cases h
    · cases h
  · rename_i hx hi
    split at h
    · rename_i hn
      split at h
      · rename_i hy ht
        split at h
        · rename_i hs
          cases h
          obtain ⟨k1, k2, _⟩ := sliceInfo_sound ht
          exact .mk0 (holds_indexAddr_slice ho k1 (by rw [hx]; exact AV.le_refl _) hi hn hy (by rw [hs]; exact k2))
        · cases h
      · cases h
    · cases h
  · rename_i hx hi
    split at h
    · rename_i ht
      split at h
      · rename_i hc
        cases h
        obtain ⟨k1, k2⟩ := arrInfo_sound ht
        exact .mk0 (holds_indexAddr_ptr ho k1 k2 hx hi hc.1 hc.2)
      · cases h
    · cases h
  · rename_i hx hi
    split at h
    · rename_i ht hy
      split at h
      · rename_i hc
        cases h
        obtain ⟨k1, k2⟩ := arrInfo_sound ht
        exact .mk0 (holds_indexAddr_view ho k1 k2 hx hi hc.1 hc.2.1 hy hc.2.2)
      · cases h
    · cases h
  · cases h

theorem evSlice_sound {t : TypeId} {x : Operand} {lo hi mx : Option Operand} (ho : o.op = .slice t x lo hi mx) (h : evSlice P s σ t (aeval s x) lo hi mx = some st) : Gives P o s σ id st := by
  unfold evSlice at h
  split at h
  · rename_i hx
    split at h
    · rename_i ht hl hh
      split at h
      · rename_i hc
        cases h
        obtain ⟨k1, k2, _⟩ := sliceInfo_sound ht
        exact .mk0 (holds_slice_slice ho k1 k2 (by rw [hx]; exact AV.le_refl _) hl hh hc.1 hc.2.1 hc.2.2)
      · cases h
    · cases h
  · rename_i hx
    split at h
    · rename_i ht hl hh
      split at h
      · rename_i hc
        cases h
        obtain ⟨k1, k2, _⟩ := sliceInfo_sound ht
        exact .mk0 (holds_slice_slice ho k1 k2 (by rw [hx]; exact AV.le_clip _) hl hh hc.1 hc.2.1 hc.2.2)
      · cases h
    · cases h
  · rename_i hx
    split at h
    · rename_i hm ht hl hh
      split at h
      · rename_i hc
        cases h
        obtain ⟨k1, k2, _⟩ := sliceInfo_sound ht
        obtain ⟨c1, c2, c3, c4, c5⟩ := hc
        subst c3; subst c4; subst c5
        exact ⟨holds_slice_ms ho k1 k2 hx hl hh c1 c2, fun p hp => by simp at hp; subst hp; exact evMrow_sound hm⟩
      · cases h
    · cases h
  · rename_i hx
    split at h
    · rename_i y ht hl hh
      cases h
      obtain ⟨e, size, bytes, z⟩ := y
      obtain ⟨k1, k2, _⟩ := sliceInfo_sound ht
      exact .mk0 (holds_slice_nils ho k1 k2 hx hl hh)
    · cases h
  · rename_i hx
    split at h
    · rename_i hl hh
      split at h
      · rename_i hc; cases h; exact .mk0 (holds_slice_str ho hc.1 hx hl hh hc.2.1 hc.2.2)
      · cases h
    · cases h
  · rename_i hx
    unfold evSliceBox at h
    split at h
    · rename_i b n e size hb ht
      split at h
      · rename_i hy hl hh
        split at h
        · rename_i hc
          cases h
          obtain ⟨c1, c2, c3, c4, c5, c6⟩ := hc
          refine ⟨holds_slice_fbox (!b) ho ht hx hy c1 c2 c3 hl hh c4 c5 (by unfold maxLen; omega), fun p hp => ?_⟩
          simp at hp
          subst hp
          rcases evBox_sound hb with ⟨rfl, he⟩ | ⟨rfl, he⟩ <;> simpa using he
        · cases h
      · cases h
    · cases h
  · rename_i hx
    split at h
    · rename_i ht
      split at h
      · rename_i hl hh
        split at h
        · rename_i hc
          cases h
          exact .mk0 (holds_slice_view ho ht hx hc.1 hc.2.1 hl hh hc.2.2.1 hc.2.2.2.1 (by unfold maxLen; omega))
        · cases h
      · cases h
    · cases h
  · rename_i hx
    split at h
    · rename_i ht hl hh hm
      split at h
      · rename_i hc
        cases h
        obtain ⟨k1, k2, _⟩ := sliceInfo_sound ht
        obtain ⟨c1, c2, c3, c4, c5⟩ := hc
        subst c2
        exact .mk0 (holds_slice_clip ho k1 k2 (by rw [hx]; exact AV.le_refl _) hl hh hm c1 c3 c4 c5)
      · cases h
    · cases h
  · rename_i hx
    split at h
    · rename_i ht hl hh hm
      split at h
      · rename_i hc
        cases h
        obtain ⟨k1, k2, _⟩ := sliceInfo_sound ht
        obtain ⟨c1, c2, c3, c4, c5⟩ := hc
        subst c2
        exact .mk0 (holds_slice_clip ho k1 k2 (by rw [hx]; exact AV.le_clip _) hl hh hm c1 c3 c4 c5)
      · cases h
    · cases h
  · rename_i hx
    split at h
    · rename_i y ht hl hh hm
      split at h
      · rename_i hc
        cases h
        obtain ⟨e, size, bytes, z⟩ := y
        obtain ⟨k1, k2, _⟩ := sliceInfo_sound ht
        have := holds_slice_clip (id := id) ho k1 k2 (own := none) (xs := []) (by rw [hx]; exact AV.le_nils0) hl hh hm hc (Nat.le_refl _) (Nat.le_refl _) rfl
        exact .mk0 this
      · cases h
    · cases h
  · cases h

theorem evalOp_sound (h : evalOp P o.op s σ id = some st) : Gives P o s σ id st := by
  cases ho : o.op <;> rw [ho] at h <;> simp only [evalOp] at h <;> try (cases h; done)
  case move x => cases h; exact .mk0 (holds_move ho)
  case assign x => cases h; exact .mk0 (holds_assign ho)
  case pick c x y =>
    unfold evPick at h
    split at h
    · rename_i hc; cases h; exact .mk0 (holds_pick ho hc)
    · cases h
  case extract x i =>
    unfold evExtract at h
    split at h
    · rename_i hx
      split at h
      · rename_i hy; cases h; exact .mk0 (holds_extract ho hx hy)
      · cases h
    · cases h
  case nilCheck x =>
    unfold evNilCheck at h
    split at h
    · rename_i hx; cases h; rw [← hx]; exact .mk0 (holds_nilCheck ho (by rw [hx]; trivial))
    · rename_i hx; cases h; rw [← hx]; exact .mk0 (holds_nilCheck ho (by rw [hx]; trivial))
    · rename_i hx; cases h; rw [← hx]; exact .mk0 (holds_nilCheck ho (by rw [hx]; trivial))
    · cases h
  case makeFunc fn first cap =>
    unfold evMakeFunc at h
    split at h
    · rename_i f hf; cases h; rw [toList_nil hf] at ho; exact .mk0 (holds_makeFunc ho)
    · cases h
  case binOp op t x y yt =>
    unfold evBin at h
    split at h
    · rename_i hx hy
      split at h
      · rename_i hr; cases h; exact .mk0 (holds_binOp ho hx hy hr)
      · split at h
        · rename_i hr; cases h; exact .mk0 (holds_nilEq ho hx hy hr)
        · cases h
    · rename_i hx hy
      split at h
      · rename_i hr; cases h; exact .mk0 (holds_eqA ho hx hy hr)
      · cases h
    · split at h
      · rename_i hr; cases h; exact .mk0 (holds_nilEq ho rfl rfl hr)
      · cases h
  case unOp op t x =>
    unfold evUn at h
    split at h
    · rename_i hx
      split at h
      · rename_i hr; cases h; exact .mk0 (holds_unOp ho hx hr)
      · cases h
    · cases h
  case convert src dst x => exact evConvert_sound ho h
  case index t x i =>
    unfold evIndex at h
    split at h
    · rename_i hx hi
      split at h
      · rename_i hc
        split at h
        · rename_i hb; cases h; exact .mk0 (holds_index_str ho hc.1 hx hi hc.2 hb)
        · cases h
      · cases h
    · cases h
  case fieldAddr t x f =>
    unfold evFieldAddr at h
    split at h
    · rename_i hx hk; cases h; exact .mk0 (holds_fieldAddr_ptr ho hx hk)
    · rename_i hx hk
      split at h
      · rename_i hm
        cases h
        exact ⟨holds_fieldAddr_mp ho hx hk, fun p hp => by simp at hp; subst hp; exact evMrow_sound hm⟩
      · cases h
    · rename_i hx hk
      split at h
      · rename_i hy
        split at h
        · rename_i hs; cases h; exact .mk0 (holds_fieldAddr_view ho hx hk hy hs)
        · cases h
      · cases h
    · cases h
  case load t x => exact evLoad_sound ho h
  case store t x y => exact evStore_sound ho h
  case box t x => cases h; exact .mk0 (holds_box ho rfl)
  case alloc t =>
    unfold evAlloc at h
    split at h
    · rename_i hz; cases h; exact .mk0 (holds_alloc ho hz)
    · cases h
  case indexAddr t x i => exact evIndexAddr_sound ho h
  case build t parts =>
    unfold evBuild at h
    split at h
    · rename_i hz hp
      split at h
      · rename_i hf; cases h; exact .mk0 (holds_build_struct ho hz hp hf)
      · cases h
    · rename_i hz hp ht
      split at h
      · rename_i hf
        cases h
        obtain ⟨k1, k2⟩ := arrInfo_sound ht
        exact .mk0 (holds_build_array ho hz k1 k2 hf)
      · cases h
    · cases h
  case buildSlice t len parts =>
    unfold evBuildSlice at h
    split at h
    · rename_i ht
      split at h
      · rename_i hf
        split at h
        · rename_i hc
          cases h
          obtain ⟨k1, k2, k3, k4, k5, k6⟩ := sliceInfo_sound ht
          exact .mk0 (holds_buildSlice ho k1 k2 k4 k6 k5 hc.1 hf hc.2.1 hc.2.2)
        · cases h
      · cases h
    · cases h
  case slice t x lo hi mx => exact evSlice_sound ho h
  case makeInterface t x =>
    split at h
    · rename_i hc; cases h; exact .mk0 (holds_makeInterface ho hc)
    · cases h
  case typeAssert x xt t ok =>
    cases ok with
    | false => cases h
    | true =>
      simp only [Option.map_eq_some_iff] at h
      obtain ⟨v, hv, rfl⟩ := h
      exact .mk0 (holds_typeAssert ho hv)
  case makeSlice t x y =>
    unfold evMakeSlice at h
    split at h
    · rename_i ht hx hy
      split at h
      · rename_i hc
        cases h
        obtain ⟨k1, k2, k3, k4, k5, k6⟩ := sliceInfo_sound ht
        exact .mk0 (holds_makeSlice ho k1 k2 k3 k4 k5 k6 hx hy hc.1 hc.2.1 hc.2.2.1 hc.2.2.2)
      · cases h
    · cases h
  case call c =>
    unfold evCall at h
    obtain ⟨callee, args, ts⟩ := c
    cases callee with
    | builtin b => exact evBuiltin_sound ho h
    | value => cases h
    | invoke => cases h
end
end Go.Ab

/- Code: the walk of a body at the level of values (aw), its loops, and that it is sound. -/
namespace Go.Ab
open Go.RowKit

abbrev Trace := List (Nat × Foot × Foot)

def addT (i : Nat) (st : Step) (T : Trace) : Trace :=
  match st.pre, st.post with
  | [], [] => T
  | p, q => (i, p, q) :: T

/-- What 'evalOp' does not know: a call, or an operation with a law of its own. -/
def AStepX (P : Program) (o : Oper) (c : Cfg) (id : Nat) (k : Step → Prop) : Prop := ∃ st, Gives P o c.s c.σ id st ∧ k st

def wantedG (ops : Array Oper) (gd : Option (Nat × Bool)) (s : Slots) : Option Bool :=
  match gd with
  | none => some true
  | some (j, want) =>
    match (ops[j]?).bind (·.dst) with
    | none => none
    | some d =>
      match s d with
      | .lit (.bool b) => some (b == want)
      | .tup [] => some false
      | _ => none
theorem wantedG_none (ops : Array Oper) (s : Slots) : wantedG ops none s = some true := rfl

def astep (P : Program) (o : Oper) (c : Cfg) (id : Nat) (k : Step → Prop) : Prop := AStepX P o c id k
theorem astep_sound {P : Program} {o : Oper} {c : Cfg} {id : Nat} {k : Step → Prop} (h : astep P o c id k) : ∃ st, Gives P o c.s c.σ id st ∧ k st := h

def aguard (b : Option Bool) (A B : Prop) : Prop :=
  match b with
  | some b => (b = true → A) ∧ (b = false → B)
  | none => False
theorem aguard_true (A B : Prop) : aguard (some true) A B = A := by simp [aguard]
theorem aguard_false (A B : Prop) : aguard (some false) A B = B := by simp [aguard]
@[congr] theorem aguard_congr {b b' : Option Bool} (h : b = b') (A B : Prop) : aguard b A B = aguard b' A B := by rw [h]

def aops (P : Program) (ops : Array Oper) (m : Nat) : List Oper → Nat → Trace → (Cfg → Trace → Prop) → Cfg → Prop
  | [], _, T, k, c => k c T
  | o :: r, i, T, k, c => aguard (wantedA ops o c.s) (astep P o c (m + i) fun st => aops P ops m r (i + 1) (addT i st T) k (c.after o.dst st)) (aops P ops m r (i + 1) T k (c.after o.dst ⟨[], .tup [], []⟩))

theorem aops_cons (P : Program) (ops : Array Oper) (m i : Nat) (T : Trace) (k : Cfg → Trace → Prop) (d : Option Tmp) (op : Op) (ty : TypeId) (pos : String) (after : Array Edge) (gd : Option (Nat × Bool)) (r : List Oper) (s : Slots) (σ : Nat → Ent) (n : Nat) :
    aops P ops m (⟨d, op, ty, pos, after, gd⟩ :: r) i T k ⟨s, σ, n⟩ = aguard (wantedG ops gd s) (AStepX P ⟨d, op, ty, pos, after, gd⟩ ⟨s, σ, n⟩ (m + i) fun st => aops P ops m r (i + 1) (addT i st T) k ⟨sput s d st.v, wr σ st.post, n⟩) (aops P ops m r (i + 1) T k ⟨sput s d (.tup []), σ, n⟩) := rfl
@[congr] theorem aops_congr {c c' : Cfg} {T T' : Trace} (h : c = c') (hT : T = T') (P : Program) (ops : Array Oper) (m : Nat) (l : List Oper) (i : Nat) (k : Cfg → Trace → Prop) : aops P ops m l i T k c = aops P ops m l i T' k c' := by rw [h, hT]
@[congr] theorem AStepX_congr {c c' : Cfg} (h : c = c') (P : Program) (o : Oper) (id : Nat) (k : Step → Prop) : AStepX P o c id k = AStepX P o c' id k := by rw [h]

/-! ### Two operations that no chain of edges orders do not meet -/
def depMasks : List Oper → List Nat → List Nat
  | [], ms => ms
  | o :: r, ms => depMasks r (ms ++ [o.after.toList.foldl (fun s e => if Region.binds .any e then s ||| 2 ^ e.on ||| ms.getD e.on 0 else s) 0])

def depB (ops : Array Oper) (i j : Nat) : Bool := ((depMasks ops.toList []).getD j 0).testBit i

theorem depMasks_sound (ops : Array Oper) : ∀ (l : List Oper) (k : Nat) (ms : List Nat), (∀ j, l[j]? = ops[k + j]?) → ms.length = k → (∀ i j, (ms.getD j 0).testBit i = true → Dep ops i j) →
    ∀ i j, ((depMasks l ms).getD j 0).testBit i = true → Dep ops i j
  | [], _, ms, _, _, h => h
  | o :: l, k, ms, hl, hlen, h => by
    have h0 : ops[k]? = some o := by simpa using (hl 0).symm
    refine depMasks_sound ops l (k + 1) _ (fun j => by have := hl (j + 1); simpa [Nat.add_assoc, Nat.add_comm 1 j] using this) (by simp [hlen]) fun i j hb => ?_
    by_cases hj : j < ms.length
    · rw [List.getD_eq_getElem?_getD, List.getElem?_append_left hj, ← List.getD_eq_getElem?_getD] at hb
      exact h i j hb
    · by_cases hjk : j = k
      · subst hjk
        rw [List.getD_eq_getElem?_getD, List.getElem?_append_right (by omega), hlen] at hb
        simp only [Nat.sub_self, List.getElem?_cons_zero, Option.getD_some] at hb
        have key : ∀ (es : List Edge) (s0 : Nat), (∀ e ∈ es, e ∈ o.after.toList) → ((s0.testBit i = true → Dep ops i j)) →
            (es.foldl (fun s e => if Region.binds .any e then s ||| 2 ^ e.on ||| ms.getD e.on 0 else s) s0).testBit i = true → Dep ops i j := by
          intro es
          induction es with
          | nil => intro s0 _ h0 hb; exact h0 hb
          | cons e r ih =>
            intro s0 hm h1 hb
            refine ih _ (fun e' he' => hm e' (List.mem_cons_of_mem _ he')) ?_ hb
            intro hb'
            simp only at hb'
            split at hb'
            · rename_i hbe
              have he : e ∈ o.after := by have := hm e (List.mem_cons_self ..); simpa using this
              have hd : Dep ops e.on j := .edge e.on j o e h0 he hbe rfl
              rw [Nat.testBit_or, Nat.testBit_or, Bool.or_eq_true, Bool.or_eq_true] at hb'
              rcases hb' with (hb' | hb') | hb'
              · exact h1 hb'
              · rw [Nat.testBit_two_pow] at hb'
                have : e.on = i := by simpa using hb'
                rw [← this]; exact hd
              · exact .trans i e.on j (h i e.on hb') hd
            · exact h1 hb'
        exact key _ 0 (fun e he => he) (fun hb => by simp at hb) hb
      · rw [List.getD_eq_getElem?_getD, List.getElem?_append_right (by omega)] at hb
        have : (List.length ms) + 1 ≤ j := by omega
        rw [List.getElem?_eq_none (by simp; omega)] at hb
        simp at hb

theorem depB_sound {ops : Array Oper} {i j : Nat} (h : depB ops i j = true) : Dep ops i j :=
  depMasks_sound ops ops.toList 0 [] (fun j => by simp) rfl (fun i j hb => by simp at hb) i j h

def DisjF (x y : Foot × Foot) : Prop := (∀ p ∈ x.2, ∀ q ∈ y.1 ++ y.2, p.1 ≠ q.1) ∧ (∀ p ∈ x.1, ∀ q ∈ y.2, p.1 ≠ q.1)
def Ind (ops : Array Oper) (i j : Nat) (x y : Foot × Foot) : Prop := depB ops i j = true ∨ DisjF x y
def CFy (ops : Array Oper) (y : Nat × Foot × Foot) : Trace → Prop
  | [] => True
  | x :: r => Ind ops x.1 y.1 x.2 y.2 ∧ CFy ops y r
def CF (ops : Array Oper) : Trace → Prop
  | [] => True
  | y :: r => CFy ops y r ∧ CF ops r

section
variable {P : Program} {ops : Array Oper} {m : Nat}

def addAll : Nat → List Step → Trace → Trace
  | _, [], T => T
  | i, st :: r, T => addAll (i + 1) r (addT i st T)

/-- The walk, its steps under names. -/
theorem aops_lex {Q : Cfg → Trace → Prop} : ∀ (l : List Oper) (i : Nat) (T : Trace) (c : Cfg), aops P ops m l i T Q c →
    ∃ outs : List Step, outs.length = l.length ∧ ∀ out : Nat → Step, (∀ j, j < l.length → out (i + j) = outs.getD j default) → lexA P ops m out (fun c' => Q c' (addAll i outs T)) l i c
  | [], i, T, c, h => ⟨[], rfl, fun out _ => h⟩
  | o :: l, i, T, c, h => by
    simp only [aops, aguard] at h
    cases hw : wantedA ops o c.s with
    | none => rw [hw] at h; exact h.elim
    | some b =>
      rw [hw] at h
      cases b with
      | true =>
        obtain ⟨st, hg, hk⟩ := astep_sound (h.1 rfl)
        obtain ⟨outs, hl, hr⟩ := aops_lex l (i + 1) _ _ hk
        refine ⟨st :: outs, by simp [hl], fun out ho => ?_⟩
        have h0 : out i = st := by simpa using ho 0 (by simp)
        refine ⟨.inl ⟨hw, ?_⟩, ?_⟩
        · rw [h0]; exact hg
        · rw [h0]
          exact hr out fun j hj => by
            have := ho (j + 1) (by simp; omega)
            rw [show i + (j + 1) = i + 1 + j from by omega] at this
            simpa using this
      | false =>
        obtain ⟨outs, hl, hr⟩ := aops_lex l (i + 1) _ _ (h.2 rfl)
        refine ⟨⟨[], .tup [], []⟩ :: outs, by simp [hl], fun out ho => ?_⟩
        have h0 : out i = ⟨[], .tup [], []⟩ := by simpa using ho 0 (by simp)
        refine ⟨.inr ⟨hw, h0⟩, ?_⟩
        · rw [h0]
          exact hr out fun j hj => by
            have := ho (j + 1) (by simp; omega)
            rw [show i + (j + 1) = i + 1 + j from by omega] at this
            simpa using this

def IndS (ops : Array Oper) (i j : Nat) (x y : Step) : Prop := Ind ops i j (x.pre, x.post) (y.pre, y.post)

theorem CFy_mem {y : Nat × Foot × Foot} : ∀ {T : Trace}, CFy ops y T → ∀ x ∈ T, Ind ops x.1 y.1 x.2 y.2
  | [], _, x, hx => by cases hx
  | z :: r, h, x, hx => by
    rcases List.mem_cons.1 hx with rfl | hx
    · exact h.1
    · exact CFy_mem h.2 x hx

theorem CF_addAll : ∀ (outs : List Step) (i : Nat) (T : Trace), CF ops (addAll i outs T) →
    CF ops T ∧ (∀ x ∈ T, ∀ (j : Nat) (st : Step), outs[j]? = some st → Ind ops x.1 (i + j) x.2 (st.pre, st.post)) ∧
    (∀ (j k : Nat) (st st' : Step), j < k → outs[j]? = some st → outs[k]? = some st' → IndS ops (i + j) (i + k) st st')
  | [], i, T, h => ⟨h, fun x _ j st hst => by simp at hst, fun j k st st' _ hst _ => by simp at hst⟩
  | st0 :: outs, i, T, h => by
    obtain ⟨h1, h2, h3⟩ := CF_addAll outs (i + 1) (addT i st0 T) h
    by_cases he : st0.pre = [] ∧ st0.post = []
    · have hT : addT i st0 T = T := by simp [addT, he.1, he.2]
      rw [hT] at h1 h2
      refine ⟨h1, fun x hx j st hst => ?_, fun j k st st' hjk hst hst' => ?_⟩
      · cases j with
        | zero =>
          simp at hst; subst hst
          exact .inr ⟨by simp [he.1, he.2], by simp [he.2]⟩
        | succ j =>
          have := h2 x hx j st (by simpa using hst)
          rwa [show i + (j + 1) = i + 1 + j from by omega]
      · cases j with
        | zero =>
          simp at hst; subst hst
          exact .inr ⟨by simp [he.2], by simp [he.1]⟩
        | succ j =>
          cases k with
          | zero => omega
          | succ k =>
            have := h3 j k st st' (by omega) (by simpa using hst) (by simpa using hst')
            rwa [show i + (j + 1) = i + 1 + j from by omega, show i + (k + 1) = i + 1 + k from by omega]
    · have hT : addT i st0 T = (i, st0.pre, st0.post) :: T := by
        unfold addT
        split
        · rename_i a b; exact absurd ⟨a, b⟩ he
        · rfl
      rw [hT] at h1 h2
      refine ⟨h1.2, fun x hx j st hst => ?_, fun j k st st' hjk hst hst' => ?_⟩
      · cases j with
        | zero => simp at hst; subst hst; exact CFy_mem h1.1 x hx
        | succ j =>
          have := h2 x (List.mem_cons_of_mem _ hx) j st (by simpa using hst)
          rwa [show i + (j + 1) = i + 1 + j from by omega]
      · cases j with
        | zero =>
          simp at hst; subst hst
          cases k with
          | zero => omega
          | succ k =>
            have := h2 (i, st0.pre, st0.post) (List.mem_cons_self ..) k st' (by simpa using hst')
            unfold IndS
            rwa [show i + (k + 1) = i + 1 + k from by omega]
        | succ j =>
          cases k with
          | zero => omega
          | succ k =>
            have := h3 j k st st' (by omega) (by simpa using hst) (by simpa using hst')
            rwa [show i + (j + 1) = i + 1 + j from by omega, show i + (k + 1) = i + 1 + k from by omega]

theorem wp_region_ab {W0 : World} {g : Ghost} {N : Nat} {c : Cfg} {a : Act} {w : World} {id : Nat} {draw : Bool} {Q : Cfg → Prop} {Q' : Exit → Act → World → Prop} (hmix : P.follows .mixedOrders = true) (hN : shapeOK N ops = true)
    (hB : draw = true → Region.lexB .any ops = true) (hS : SimA W0 g N c a w) (h : aops P ops c.n ops.toList 0 [] (fun c' T => (draw = true → CF ops T) ∧ Q c') { c with n := c.n + ops.size })
    (hQ : ∀ c g' a' w, g.le g' → SimA W0 g' N c a' w → a'.defers = a.defers → Q c → Q' .normal a' w) {ro : Option Nat} : (Code.region id ops draw).wpIn (wideAt ro) 0 P Q' a w := by
  obtain ⟨outs, hl, hr⟩ := aops_lex _ _ _ _ h
  have hlex := hr (fun j => outs.getD j default) fun j _ => by simp
  have hS' : SimA W0 g N { c with n := c.n + ops.size } a w := ⟨hS.sim.more (by simp), hS.size, hS.slots⟩
  have hfree : ∀ j, c.σ (c.n + j) = .none := fun j => hS.sim.bound _ (by omega)
  cases draw with
  | false =>
    refine wpIn_region ?_
    have := lexA_sound (ro := ro) (m := c.n) (P := P) (ops := ops) (out := fun j => outs.getD j default) (Q := fun c' => (false = true → CF ops (addAll 0 outs [])) ∧ Q c') (Q' := Q') (W0 := W0) g hN (fun c g' a w hg hs hd hq => hQ c g' a w hg hs hd hq.2) ops.toList 0 { c with n := c.n + ops.size } g a w
      (fun j => by simp) (by simp) g.le_refl hS' rfl (Nat.le_refl _) (fun j _ _ => hfree j) hlex
    rw [List.range_eq_range']
    simpa using this
  | true =>
    have hB' := hB rfl
    simp only [Region.lexB, Bool.and_eq_true] at hB'
    have hdis : CF ops (addAll 0 outs []) → ∀ i j, i < j → ¬ Dep ops i j → Disj (outs.getD i default) (outs.getD j default) := by
      intro hCF i j hij hnd
      obtain ⟨_, _, h3⟩ := CF_addAll outs 0 [] hCF
      by_cases hj : j < outs.length
      · have hi : i < outs.length := by omega
        have := h3 i j outs[i] outs[j] hij (List.getElem?_eq_getElem hi) (List.getElem?_eq_getElem hj)
        have e1 : outs.getD i default = outs[i] := by simp [List.getD, List.getElem?_eq_getElem hi]
        have e2 : outs.getD j default = outs[j] := by simp [List.getD, List.getElem?_eq_getElem hj]
        rw [e1, e2]
        rcases this with hd | hd
        · simp only [Nat.zero_add] at hd
          exact absurd (depB_sound hd) hnd
        · exact hd
      · have e2 : outs.getD j default = (default : Step) := by simp [List.getD, List.getElem?_eq_none (Nat.not_lt.1 hj)]
        rw [e2]
        refine ⟨fun p _ q hq => ?_, fun p _ q hq => ?_⟩
        · exact (List.not_mem_nil hq).elim
        · exact (List.not_mem_nil hq).elim
    refine wpIn_region_any hmix ?_
    by_cases hCF : CF ops (addAll 0 outs [])
    · have hany := anyA_lex (P := P) (ops := ops) (m := c.n) (out := fun j => outs.getD j default) (Q := fun c' => (true = true → CF ops (addAll 0 outs [])) ∧ Q c') (hdis hCF) ops.toList 0 (Array.replicate ops.size false) { c with n := c.n + ops.size }
        (fun j => by simp) (fun k o ho hk => by
          exfalso
          rcases Nat.lt_or_ge k ops.size with h' | h'
          · simp [h'] at hk
          · simp [h'] at hk) (fun j hj => by omega) (by simpa using hB'.2) hlex
      have := anyA_sound (ro := ro) (W0 := W0) (Q' := Q') g hN (fun c g' a w hg hs hd hq => hQ c g' a w hg hs hd hq.2) ops.toList.length (Array.replicate ops.size false) _ g a { w with drawn := w.drawn + 1 } g.le_refl ⟨hS'.sim.drew, hS'.size, hS'.slots⟩ rfl (Nat.le_refl _) (fun j _ _ => hfree j) hany
      simpa using this
    · exfalso
      have fin : ∀ (l : List Oper) (k : Nat) (c : Cfg) (mm : Nat), lexA P ops mm (fun j => outs.getD j default) (fun c' => (true = true → CF ops (addAll 0 outs [])) ∧ Q c') l k c → CF ops (addAll 0 outs []) := by
        intro l
        induction l with
        | nil => intro k c mm hx; exact hx.1 rfl
        | cons o r ih => intro k c mm hx; exact ih _ _ _ hx.2
      exact hCF (fin _ _ _ _ hlex)
end

/-! ### Code -/
inductive AExit where
  | normal
  | exit (id : Nat)
  | ret

def aThen (next : Cfg → Prop) (Q : AExit → Cfg → Prop) : AExit → Cfg → Prop
  | .normal, c => next c
  | e, c => Q e c
def aBlk (id : Nat) (Q : AExit → Cfg → Prop) : AExit → Cfg → Prop
  | .exit id', c => if id' = id then Q .normal c else Q (.exit id') c
  | e, c => Q e c
def acond (v : AV) (A B : Prop) : Prop :=
  match v with
  | .lit (.bool b) => (b = true → A) ∧ (b = false → B)
  | _ => False

/-- Deferred calls that came up on the way: marks of ranges over functions, each in a number of its own. -/
def mkMark (p : Nat × Nat) : Deferred := { target := .collected p.2, args := #[] }
def Marks (g g' : Ghost) (D D' : List Deferred) : Prop := ∃ L : List (Nat × Nat), D' = L.map mkMark ++ D ∧ (L.map (·.1)).Nodup ∧ ∀ p ∈ L, ¬ g.has p.1 ∧ g'.loc p.1 = some p.2 ∧ g'.row p.1 ≠ none
theorem Marks.refl (g g' : Ghost) (D : List Deferred) : Marks g g' D D := ⟨[], rfl, List.nodup_nil, fun d hd => (by cases hd)⟩
theorem Marks.of_eq {g g' : Ghost} {D D' : List Deferred} (h : D' = D) : Marks g g' D D' := h ▸ .refl g g' D
theorem Marks.trans {g g1 g2 : Ghost} {D D1 D2 : List Deferred} (hle : g.le g1) (hle2 : g1.le g2) (h : Marks g g1 D D1) (h' : Marks g1 g2 D1 D2) : Marks g g2 D D2 := by
  obtain ⟨M, rfl, hn, hM⟩ := h
  obtain ⟨M', rfl, hn', hM'⟩ := h'
  refine ⟨M' ++ M, by simp, ?_, fun d hd => ?_⟩
  · rw [List.map_append, List.nodup_append]
    refine ⟨hn', hn, fun a ha b hb hab => ?_⟩
    obtain ⟨p, hp, rfl⟩ := List.mem_map.1 ha
    obtain ⟨q, hq, rfl⟩ := List.mem_map.1 hb
    exact (hM' p hp).1 (.inl (by rw [hab, (hM q hq).2.1]; simp))
  · rcases List.mem_append.1 hd with hd | hd
    · obtain ⟨h2, h3, h4⟩ := hM' d hd
      exact ⟨fun hj => h2 (hle.has hj), h3, h4⟩
    · obtain ⟨h2, h3, h4⟩ := hM d hd
      exact ⟨h2, hle2.loc _ _ h3, hle2.row_ne h4⟩

/-- A post on values, as a post on worlds. -/
def LQ (W0 : World) (g : Ghost) (N : Nat) (D : List Deferred) (Q : AExit → Cfg → Prop) : Exit → Act → World → Prop := fun e a w =>
  ∃ c g', g.le g' ∧ SimA W0 g' N c a w ∧ Marks g g' D a.defers ∧ match e with
    | .normal => Q .normal c
    | .exit id => Q (.exit id) c
    | .ret => Q .ret c
    | _ => False

theorem LQ.mono {W0 : World} {g g' : Ghost} {N : Nat} {D D' : List Deferred} {Q : AExit → Cfg → Prop} (hg : g.le g') (hM : Marks g g' D D') {e : Exit} {a : Act} {w : World} (h : LQ W0 g' N D' Q e a w) : LQ W0 g N D Q e a w :=
  let ⟨c, g'', hle, hs, hm, hq⟩ := h
  ⟨c, g'', hg.trans hle, hs, hM.trans hg hle hm, hq⟩

def kReg (ops : Array Oper) (draw : Bool) (Q : AExit → Cfg → Prop) (c : Cfg) (T : Trace) : Prop := (draw = true → CF ops T) ∧ Q .normal c
theorem kReg_false (ops : Array Oper) (Q : AExit → Cfg → Prop) (c : Cfg) (T : Trace) : kReg ops false Q c T = Q .normal c := by simp [kReg]
theorem kReg_true (ops : Array Oper) (Q : AExit → Cfg → Prop) (c : Cfg) (T : Trace) : kReg ops true Q c T = (CF ops T ∧ Q .normal c) := by simp [kReg]
theorem CF_one (ops : Array Oper) (x : Nat × Foot × Foot) : CF ops [x] = True := by simp [CF, CFy]
@[congr] theorem acond_congr {v v' : AV} (h : v = v') (A B : Prop) : acond v A B = acond v' A B := by rw [h]
/-- What the text alone shows: every region's shape; where the order is open, that the text's order is one. -/
def codeOK (N : Nat) : Code → Bool
  | .seq x y => codeOK N x && codeOK N y
  | .cond x y z => opndOK x && codeOK N y && codeOK N z
  | .block _ b => codeOK N b
  | .loop b => codeOK N b
  | .scope b => codeOK N b
  | .region _ ops draw => shapeOK N ops && (!draw || Region.lexB .any ops)
  | .rangeFunc f _ a b => opndOK f && codeOK N a && codeOK N b
  | _ => true

@[congr] theorem aThen_congr {c c' : Cfg} (h : c = c') (Q : AExit → Cfg → Prop) (next : Cfg → Prop) (e : AExit) : aThen next Q e c = aThen next Q e c' := by rw [h]
@[congr] theorem aBlk_congr {c c' : Cfg} (h : c = c') (Q : AExit → Cfg → Prop) (id : Nat) (e : AExit) : aBlk id Q e c = aBlk id Q e c' := by rw [h]
@[congr] theorem kReg_congr {c c' : Cfg} {T T' : Trace} (h : c = c') (hT : T = T') (ops : Array Oper) (draw : Bool) (Q : AExit → Cfg → Prop) : kReg ops draw Q c T = kReg ops draw Q c' T' := by rw [h, hT]

/-- No range over a function stands in it. -/
def noRange : Code → Bool
  | .seq x y => noRange x && noRange y
  | .cond _ y z => noRange y && noRange z
  | .block _ b => noRange b
  | .loop b => noRange b
  | .scope b => noRange b
  | .rangeFunc .. => false
  | _ => true
/-- An activation of a function; or a round, and no range over a function within. -/
def roOK (ro : Option Nat) (b : Code) : Prop := ro = none ∨ noRange b = true
theorem roOK.seq {ro : Option Nat} {x y : Code} (h : roOK ro (.seq x y)) : roOK ro x ∧ roOK ro y := by
  rcases h with h | h
  · exact ⟨.inl h, .inl h⟩
  · simp only [noRange, Bool.and_eq_true] at h; exact ⟨.inr h.1, .inr h.2⟩
theorem roOK.cond {ro : Option Nat} {c : Operand} {x y : Code} (h : roOK ro (.cond c x y)) : roOK ro x ∧ roOK ro y := by
  rcases h with h | h
  · exact ⟨.inl h, .inl h⟩
  · simp only [noRange, Bool.and_eq_true] at h; exact ⟨.inr h.1, .inr h.2⟩
theorem roOK.block {ro : Option Nat} {id : Nat} {x : Code} (h : roOK ro (.block id x)) : roOK ro x := h.imp (fun h => h) fun h => h
theorem roOK.loop {ro : Option Nat} {x : Code} (h : roOK ro (.loop x)) : roOK ro x := h
theorem roOK.scope {ro : Option Nat} {x : Code} (h : roOK ro (.scope x)) : roOK ro x := h

/-- A piece of code, begun where the values and entities are so, ends so. -/
def aw (P : Program) (N : Nat) (b : Code) (Q : AExit → Cfg → Prop) (c : Cfg) : Prop :=
  codeOK N b = true → P.follows .mixedOrders = true → ∀ (ro : Option Nat), roOK ro b → ∀ W0 g a w, SimA W0 g N c a w → b.wpIn (wideAt ro) 0 P (LQ W0 g N a.defers Q) a w
abbrev ALoop (P : Program) (N : Nat) (b : Code) (Q : AExit → Cfg → Prop) (c : Cfg) : Prop := aw P N (.loop b) Q c

theorem stepR_scope {P : Program} {b : Frame} {a : Act} {k : List Item} {cs : List Frame} {w : World} {c : Code} : step P (lone (b.atR a (.code (.scope c) :: k)) cs w) = .next (lone (b.atR a (.code c :: .inScope c :: k)) cs w) :=
  step_lone_go (by simp [stepG, stepG.exec, Frame.atR])
theorem stepR_inScope {P : Program} {b : Frame} {a : Act} {k : List Item} {cs : List Frame} {w : World} {c : Code} : step P (lone (b.atR a (.inScope c :: k)) cs w) = .next (lone (b.atR a k) cs w) :=
  step_lone_go (by simp [stepG, stepG.exec, Frame.atR])
theorem wpIn_scope_straight {F : Fence} {m : Nat} {P : Program} {Q : Exit → Act → World → Prop} {a : Act} {w : World} {c : Code} (h : c.wpIn F m P (Exit.noGoto Q) a w) : (Code.scope c).wpIn F m P Q a w := by
  intro b k cs hro hb hr
  have h0 : (lone (b.atR a (.code (.scope c) :: k)) cs w).fenced P F := fenced_calm hb hr rfl
  obtain ⟨e, a₁, w₁, hq, harr⟩ := h b (.inScope c :: k) cs hro hb hr
  cases e with
  | normal => exact ⟨.normal, a₁, w₁, hq, .head h0 stepR_scope (StepsIn.trans harr (.one (fenced_calm hb hr rfl) stepR_inScope))⟩
  | exit id =>
    have hx : exitTo id (.inScope c :: k) = exitTo id k := by simp [exitTo]
    exact ⟨.exit id, a₁, w₁, hq, fun k' hk => .head h0 stepR_scope (harr.1 k' (by rw [hx]; exact hk)),
      fun hr' hk => let ⟨k₁, h1, h2⟩ := harr.2 hr' (by rw [hx]; exact hk); ⟨k₁, h1, .head h0 stepR_scope h2⟩⟩
  | goto l => exact hq.elim
  | ret => exact ⟨_, a₁, w₁, hq, .of_steps (.one h0 stepR_scope) harr⟩
  | panic ch => exact ⟨_, a₁, w₁, hq, .of_steps (.one h0 stepR_scope) harr⟩
  | outgrown => exact ⟨_, a₁, w₁, hq, .of_steps (.one h0 stepR_scope) harr⟩

section
variable {P : Program} {N : Nat} {Q : AExit → Cfg → Prop} {c : Cfg}
@[congr] theorem aw_congr {c c' : Cfg} (h : c = c') (P : Program) (N : Nat) (Q : AExit → Cfg → Prop) (b : Code) : aw P N b Q c = aw P N b Q c' := by rw [h]
theorem go_skip (h : Q .normal c) : aw P N .skip Q c := fun _ _ _ _ _ g _ _ hS => wpIn_skip ⟨c, g, g.le_refl, hS, .refl _ _ _, h⟩
theorem go_label {l : Nat} (h : Q .normal c) : aw P N (.label l) Q c := fun _ _ _ _ _ g _ _ hS => wpIn_label ⟨c, g, g.le_refl, hS, .refl _ _ _, h⟩
theorem go_exit {id : Nat} (h : Q (.exit id) c) : aw P N (.exit id) Q c := fun _ _ _ _ _ g _ _ hS => wpIn_exit ⟨c, g, g.le_refl, hS, .refl _ _ _, h⟩
theorem go_ret (h : Q .ret c) : aw P N .ret Q c := fun _ _ _ _ _ g _ _ hS => wpIn_ret ⟨c, g, g.le_refl, hS, .refl _ _ _, h⟩
theorem go_seq {x y : Code} (h : aw P N x (aThen (aw P N y Q) Q) c) : aw P N (.seq x y) Q c := fun hok hmix ro hro W0 g a w hS => by
  simp only [codeOK, Bool.and_eq_true] at hok
  refine wpIn_seq (wpIn_mono (h hok.1 hmix ro hro.seq.1 W0 g a w hS) fun e a' w' hq => ?_)
  obtain ⟨c', g', hle, hS', hM, hq⟩ := hq
  cases e with
  | normal => exact wpIn_mono (hq hok.2 hmix ro hro.seq.2 W0 g' a' w' hS') fun e a w hq => hq.mono hle hM
  | exit id => exact ⟨c', g', hle, hS', hM, hq⟩
  | ret => exact ⟨c', g', hle, hS', hM, hq⟩
  | goto => exact hq.elim
  | panic => exact hq.elim
  | outgrown => exact hq.elim
theorem go_cond {x : Operand} {y z : Code} {b : Bool} (hv : aeval c.s x = .lit (.bool b)) (h1 : b = true → aw P N y Q c) (h2 : b = false → aw P N z Q c) : aw P N (.cond x y z) Q c := fun hok hmix ro hro W0 g a w hS => by
  simp only [codeOK, Bool.and_eq_true] at hok
  have hr := hS.eval hok.1.1
  rw [hv] at hr
  exact wpIn_cond_split (rep_lit_inv hr) (fun hb' => h1 hb' hok.1.2 hmix ro hro.cond.1 W0 g a w hS) (fun hb' => h2 hb' hok.2 hmix ro hro.cond.2 W0 g a w hS)
theorem go_condT {x : Operand} {y z : Code} (hv : aeval c.s x = .lit (.bool true)) (h : aw P N y Q c) : aw P N (.cond x y z) Q c := go_cond hv (fun _ => h) (fun h => by cases h)
theorem go_condF {x : Operand} {y z : Code} (hv : aeval c.s x = .lit (.bool false)) (h : aw P N z Q c) : aw P N (.cond x y z) Q c := go_cond hv (fun h => by cases h) (fun _ => h)
theorem go_block {id : Nat} {b : Code} (h : aw P N b (aBlk id Q) c) : aw P N (.block id b) Q c := fun hok hmix ro hro W0 g a w hS => by
  refine wpIn_block (wpIn_mono (h hok hmix ro hro.block W0 g a w hS) fun e a' w' hq => ?_)
  obtain ⟨c', g', hle, hS', hM, hq⟩ := hq
  cases e with
  | normal => exact ⟨c', g', hle, hS', hM, hq⟩
  | exit id' =>
    simp only [aBlk] at hq
    simp only [Exit.inBlock]
    split at hq
    · rename_i he; rw [if_pos he]; exact ⟨c', g', hle, hS', hM, hq⟩
    · rename_i he; rw [if_neg he]; exact ⟨c', g', hle, hS', hM, hq⟩
  | ret => exact ⟨c', g', hle, hS', hM, hq⟩
  | goto => exact hq.elim
  | panic => exact hq.elim
  | outgrown => exact hq.elim
theorem go_scope {b : Code} (h : aw P N b Q c) : aw P N (.scope b) Q c := fun hok hmix ro hro W0 g a w hS => by
  refine wpIn_scope_straight (wpIn_mono (h hok hmix ro hro.scope W0 g a w hS) fun e a' w' hq => ?_)
  obtain ⟨c', g', hle, hS', hM, hq⟩ := hq
  cases e with
  | normal => exact ⟨c', g', hle, hS', hM, hq⟩
  | exit id => exact ⟨c', g', hle, hS', hM, hq⟩
  | ret => exact ⟨c', g', hle, hS', hM, hq⟩
  | goto => exact hq.elim
  | panic => exact hq.elim
  | outgrown => exact hq.elim
theorem go_region {id : Nat} {l : List Oper} {draw : Bool} {s : Slots} {σ : Nat → Ent} {n n' : Nat} (hn : n + l.length = n') (h : aops P l.toArray n l 0 [] (kReg l.toArray draw Q) ⟨s, σ, n'⟩) : aw P N (.region id l.toArray draw) Q ⟨s, σ, n⟩ := fun hok hmix ro hro W0 g a w hS => by
  subst hn
  simp only [codeOK, Bool.and_eq_true, Bool.or_eq_true, Bool.not_eq_true'] at hok
  exact wp_region_ab hmix hok.1 (fun hd => hok.2.resolve_left (by simp [hd])) hS h fun c g' a w hg hs hd hq => ⟨c, g', hg, hs, .of_eq hd, hq⟩
theorem go_loop {b : Code} (h : ALoop P N b Q c) : aw P N (.loop b) Q c := h

/-- The entities and the values may be read otherwise. -/
theorem go_ghost {b : Code} {c' : Cfg} (hg : ∀ W0 g a w, SimA W0 g N c a w → ∃ g', g.le g' ∧ SimA W0 g' N c' a w) (h : aw P N b Q c') : aw P N b Q c := fun hok hmix ro hro W0 g a w hS => by
  obtain ⟨g', hle, hS'⟩ := hg W0 g a w hS
  exact wpIn_mono (h hok hmix ro hro W0 g' a w hS') fun e a w hq => hq.mono hle (.refl _ _ _)
/-- The end of a piece, said otherwise. -/
theorem go_mid {b : Code} {Q' : AExit → Cfg → Prop} (h : aw P N b Q' c) (hq : ∀ e c', Q' e c' → Q e c') : aw P N b Q c := fun hok hmix ro hro W0 g a w hS =>
  wpIn_mono (h hok hmix ro hro W0 g a w hS) fun e a w ⟨c', g', hle, hS', hM, hQ⟩ => ⟨c', g', hle, hS', hM, by cases e <;> first | exact hq _ _ hQ | exact hQ.elim⟩
end

theorem wp_loop_ghost {F : Fence} {m : Nat} {P : Program} {Q : Exit → Act → World → Prop} {a : Act} {w : World} {c : Code} {X : Type} (I : X → Act → World → Prop) (μ : X → Nat) (x : X) (h₀ : I x a w)
    (round : ∀ x a w, I x a w → c.wpIn F m P (Exit.then (fun a' w' => ∃ y, I y a' w' ∧ μ y < μ x) Q) a w) : (Code.loop c).wpIn F m P Q a w := by
  intro b k cs hro hb hr
  have key : ∀ n x a w, μ x = n → I x a w →
      ∃ e a' w', Q e a' w' ∧ ArrivesIn (Machine.fenced P F) P (lone (b.atR a (.code c :: .inLoop c :: k)) cs w) b k cs e a' w' := by
    intro n
    induction n using Nat.strongRecOn with
    | _ n ih =>
      intro x a w hn hI
      obtain ⟨e, a₁, w₁, hq, harr⟩ := round x a w hI b (.inLoop c :: k) cs hro hb hr
      cases e with
      | normal =>
        obtain ⟨y, hI₁, hlt⟩ := hq
        obtain ⟨e₂, a₂, w₂, hq₂, harr₂⟩ := ih (μ y) (hn ▸ hlt) y a₁ w₁ rfl hI₁
        exact ⟨e₂, a₂, w₂, hq₂, .of_steps (StepsIn.trans harr (.one (fenced_calm hb hr rfl) stepR_inLoop)) harr₂⟩
      | exit id => exact ⟨_, a₁, w₁, hq, .pass (x := .inLoop c) rfl (fun _ _ => .inl (by simp)) harr⟩
      | goto l => exact ⟨_, a₁, w₁, hq, .pass (x := .inLoop c) rfl (fun _ _ => .inl (by simp)) harr⟩
      | ret => exact ⟨_, a₁, w₁, hq, .pass (x := .inLoop c) rfl (fun _ _ => .inl (by simp)) harr⟩
      | panic ch => exact ⟨_, a₁, w₁, hq, .pass (x := .inLoop c) rfl (fun _ _ => .inl (by simp)) harr⟩
      | outgrown => exact ⟨_, a₁, w₁, hq, .pass (x := .inLoop c) rfl (fun _ _ => .inl (by simp)) harr⟩
  obtain ⟨e, a', w', hq, harr⟩ := key _ x a w rfl h₀
  exact ⟨e, a', w', hq, .of_steps (.one (fenced_calm hb hr rfl) stepR_loop) harr⟩

/-- A loop, by what holds at every round's head, and what a round lowers. -/
theorem aloop {P : Program} {N : Nat} {b : Code} {Q : AExit → Cfg → Prop} {c : Cfg} (_hmix : P.follows .mixedOrders = true) (_hok : codeOK N b = true) (I : Cfg → Prop) (μ : Cfg → Nat) (h0 : I c)
    (round : ∀ c, I c → aw P N b (aThen (fun c' => I c' ∧ μ c' < μ c) Q) c) : ALoop P N b Q c := by
  intro hok hmix ro hro W0 g a w hS
  refine wp_loop_ghost (X := Cfg) (fun x a' w => ∃ g', g.le g' ∧ SimA W0 g' N x a' w ∧ Marks g g' a.defers a'.defers ∧ I x) μ c ⟨g, g.le_refl, hS, .refl _ _ _, h0⟩ fun x a w ⟨g', hle, hS', hM, hI⟩ => ?_
  refine wpIn_mono (round x hI hok hmix ro hro.loop W0 g' a w hS') fun e a' w' ⟨c', g'', hle', hS'', hM', hq⟩ => ?_
  cases e with
  | normal => exact ⟨c', ⟨g'', hle.trans hle', hS'', hM.trans hle hle' hM', hq.1⟩, hq.2⟩
  | exit id => exact ⟨c', g'', hle.trans hle', hS'', hM.trans hle hle' hM', hq⟩
  | ret => exact ⟨c', g'', hle.trans hle', hS'', hM.trans hle hle' hM', hq⟩
  | goto => exact hq.elim
  | panic => exact hq.elim
  | outgrown => exact hq.elim
end Go.Ab
