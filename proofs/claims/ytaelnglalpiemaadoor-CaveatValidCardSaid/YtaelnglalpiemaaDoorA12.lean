/- Operations on rows that are written: append, the addresses of elements, loads and stores through them, parts, copy, clear. -/
import Derived.Test.YtaelnglalpiemaaDoorA11
namespace Go.Ab
open Go.RowKit

section
variable {P : Program} {o : Oper} {s : Slots} {id : Nat}

theorem Sim.mrowAt {W0 : World} {g : Ghost} {σ : Nat → Ent} {n : Nat} {w : World} (h : Sim W0 g σ n w) {r ver : Nat} {e : TypeId} {size : Nat} {xs : List AV} (hx : σ r = .mrow ver e size xs) :
    ∃ u vs, g.mr r = some (ver, u) ∧ slen u = xs.length ∧ vs.length = xs.length ∧ (∀ (i : Nat) (x : AV) (v : Value), xs[i]? = some x → vs[i]? = some v → Rep g x v) ∧ (∀ v ∈ vs, v.cells.size = size) ∧ ownsR w W0.heap.size e size u xs.length (flat vs) := by
  have hE := h.ents r
  rw [hx] at hE
  obtain ⟨_, _, _, u, vs, h1, h2, h3, h4, h5, h6, _⟩ := hE
  exact ⟨u, vs, h1, h2, h3, h4, h5, h6⟩

/-- append to (the first part of) a row that may be written. -/
theorem holds_append_ms {t e : TypeId} {size bytes r ver k : Nat} {z Y : AV} {x y : Operand} {xs ys : List AV} (ho : o.op = .call { callee := .builtin .append, args := #[x, y], argTypes := #[t, t] }) (ht : sliceTy P t = some e) (hs : sizeIs P e size = true) (hb : bytesIs P e bytes = true)
    (hz : ztree P e = some z) (hzs : z.sz = size) (hx : aeval s x = .ms r ver size 0 k) (hk : k ≤ xs.length) (hy : aeval s y = Y) (hY : Y.elems = some ys)
    (hsy : ys.all (fun x => x.sz == size && x.cell) = true) (hbytes : (k + ys.length) * bytes ≤ 140737488355328) (hmx : k + ys.length ≤ maxLen) :
    OpHolds P o s id [(r, .mrow ver e size xs)] (.ms r (ver + 1) size 0 (k + ys.length)) [(r, .mrow (ver + 1) e size (xs.take k ++ ys))] := by
  refine ⟨fun p hp => by simp at hp; subst hp; simp, fun q hq => .inr ⟨(r, .mrow ver e size xs), by simp, by simp at hq; subst hq; rfl⟩, fun W0 g σ n w a hS hr _ _ hp => ?_⟩
  have h1 := hr x (by simp [ho, Op.operands, Call.operands])
  have h2 := hr y (by simp [ho, Op.operands, Call.operands])
  rw [hx] at h1
  rw [hy] at h2
  have hp' : σ r = .mrow ver e size xs := hp (r, .mrow ver e size xs) (by simp)
  obtain ⟨cs, he⟩ := execOp_builtin (P := P) (a := a) ho w
  obtain ⟨i, hi, hsi⟩ := sizeIs_sound hs
  have hbi : i.bytes = bytes := by unfold bytesIs at hb; rw [hi] at hb; simpa using hb
  obtain ⟨i', zv, hi', hzv, hrz⟩ := ztree_sound hz g
  rw [hi] at hi'; cases hi'
  have hzc : zv.cells.size = i.size := by rw [hrz.size, hzs, hsi]
  obtain ⟨u, vs, hmr, hlen, hvl, hvr, hvs, hown⟩ := hS.mrowAt hp'
  have hsy1 : ys.all (fun x => x.sz == size) = true := by
    rw [List.all_eq_true] at hsy ⊢
    intro x hx
    have := hsy x hx
    simp only [Bool.and_eq_true] at this
    exact this.1
  generalize hv : a.eval x = v at h1
  generalize hw : a.eval y = yv at h2
  obtain ⟨A, m, c, us, rfl, rfl, hul, hur, hus, huc⟩ := elems_vals hY h2 hsy1
  have hone : ∀ q ∈ flat us, q.oneCell' = true := by
    intro q hq
    obtain ⟨v, hv, hq⟩ := mem_flat.1 hq
    obtain ⟨j, hj⟩ := List.getElem?_of_mem hv
    have hlt : j < ys.length := by rw [← hul]; exact (List.getElem?_eq_some_iff.1 hj).1
    have hc := List.all_eq_true.1 hsy ys[j] (List.getElem_mem hlt)
    simp only [Bool.and_eq_true] at hc
    exact (hur j _ v (List.getElem?_eq_getElem hlt) hj).cell_ok hc.2 q hq
  have hful : (flat us).length = ys.length * size := by rw [flat_length us size hus, hul]
  have htk : ∀ v ∈ vs.take k, v.cells.size = size := fun v hv => hvs v (List.mem_of_mem_take hv)
  have hftk : flat (vs.take k) = (flat vs).take (k * size) := flat_take vs size hvs k
  cases h1 with
  | ms _ _ _ _ _ ver' u' Ax cx hm' hv' hlx hcx h =>
    rw [hmr] at hm'; cases hm'
    obtain ⟨A0, n0, c0, rfl, j1, j2, j3⟩ := h rfl
    obtain ⟨rfl, rfl⟩ := j2 rfl
    simp only [slen] at hlen
    subst hlen
    -- the slice itself holds its block alone, as far as it goes
    have hownk : ownsR w W0.heap.size e size (.slice Ax k cx) k (flat (vs.take k)) := by
      refine ⟨by rw [flat_length _ size htk, List.length_take, hvl, Nat.min_eq_left hk], ?_⟩
      rcases hown.2 with ⟨h0, h00⟩ | ⟨b, cap, cur, fz, hb1, hb2, hb3, hb4, hb5, hb6, hb7, hb8⟩
      · simp at h0
        obtain ⟨rfl, _, rfl⟩ := h0
        have : k = 0 := by omega
        subst this
        exact .inl ⟨rfl, rfl⟩
      · simp at hb1
        obtain ⟨rfl, rfl⟩ := hb1
        refine .inr ⟨b, cx, cur, fz, rfl, hb2, hb3, hb4, by omega, hb6, hb7, ?_⟩
        rw [hftk, ← hb8, List.take_take, Nat.min_eq_left (Nat.mul_le_mul_right _ hk)]
    have finish : ∀ (u' : Value) (w' : World), ownsR w' W0.heap.size e size u' (k + ys.length) (flat (vs.take k) ++ flat us) → slen u' = k + ys.length → w'.os = w.os → w'.tape = w.tape → w'.output = w.output → w.heap.size ≤ w'.heap.size →
        (u'.ownBlock = (Value.slice Ax xs.length cx).ownBlock ∨ u'.ownBlock = some w.heap.size) → (∀ j, (Value.slice Ax xs.length cx).ownBlock ≠ some j → j < w.heap.size → w'.heap[j]? = w.heap[j]?) →
        ∃ g', g.le g' ∧ Sim W0 g' (upd σ r (.mrow (ver + 1) e size (xs.take k ++ ys))) n w' ∧ Rep g' (.ms r (ver + 1) size 0 (k + ys.length)) u' := by
      intro u' w' k1 k2 k3 k4 k5 k6 k7 k8
      have hlen' : (xs.take k ++ ys).length = k + ys.length := by rw [List.length_append, List.length_take, Nat.min_eq_left hk]
      obtain ⟨g', hle, hS', hm2, _⟩ := hS.turnM (ver' := ver + 1) (xs' := xs.take k ++ ys) (vs' := vs.take k ++ us) hp' hmr (.inr (Nat.lt_succ_self _)) (by rw [hlen', flat_append]; exact k1) (by rw [hlen']; exact k2) (by simp [hvl, hul])
        (fun j x v h1 h2 => by
          have hxl : (xs.take k).length = k := by rw [List.length_take, Nat.min_eq_left hk]
          have hvl' : (vs.take k).length = k := by rw [List.length_take, hvl, Nat.min_eq_left hk]
          by_cases hj : j < k
          · rw [List.getElem?_append_left (by omega), List.getElem?_take, if_pos hj] at h1
            rw [List.getElem?_append_left (by omega), List.getElem?_take, if_pos hj] at h2
            exact hvr j x v h1 h2
          · rw [List.getElem?_append_right (by omega), hxl] at h1
            rw [List.getElem?_append_right (by omega), hvl'] at h2
            exact hur _ x v h1 h2) (fun v hv => (List.mem_append.1 hv).elim (htk v) (hus v)) k3 k4 k5 k6 k7 k8
      refine ⟨g', hle, hS', ?_⟩
      rcases k1.2 with ⟨hv0, hn0⟩ | ⟨g0, cap, cur, fz, hv0, _, _, _, hnc, hcm, _⟩
      · subst hv0
        rw [hn0]
        exact .ms r (ver + 1) size 0 0 (ver + 1) _ none 0 hm2 (Nat.le_refl _) (Nat.le_refl _) (by unfold maxLen; omega) fun _ => ⟨_, _, _, rfl, by omega, fun _ => ⟨rfl, rfl⟩, fun h => absurd h (by omega)⟩
      · subst hv0
        exact .ms r (ver + 1) size 0 _ (ver + 1) _ _ cap hm2 (Nat.le_refl _) hnc hcm fun _ => ⟨_, _, _, rfl, by omega, fun _ => ⟨rfl, rfl⟩, fun _ => ⟨g0, rfl, by simp⟩⟩
    have hexec : ∀ u' w', (Builtin.append_ #[t, t] o.type #[.slice Ax k cx, .slice A ys.length c]).run P w = .ok u' w' → (execOp a.eval o).run P w = .ok (.value u') w' := fun u' w' hrun => by
      rw [he]
      simp [builtin, hv, hw, hrun]
    unfold runsTo
    have hownsi : ownsR w W0.heap.size e i.size (.slice Ax k cx) k (flat (vs.take k)) := by rw [hsi]; exact hownk
    by_cases h0 : ys.length = 0
    · have hrun := run_append_none (P := P) (ty := o.type) (sliceTy_sound ht) hi hownsi (A := A) (c := c)
      rw [← h0] at hrun
      rw [hexec _ _ hrun]
      have hfu : flat us = [] := List.eq_nil_of_length_eq_zero (by rw [hful, h0]; simp)
      exact finish _ w (by rw [hfu, List.append_nil, h0]; exact hownk) (by simp [slen, h0]) rfl rfl rfl (Nat.le_refl _) (.inl (by cases Ax <;> rfl)) fun _ _ _ => rfl
    · rcases huc with h' | ⟨b, off, rfl, huc⟩
      · exact absurd h' h0
      · obtain ⟨u', w', hrun, k1, k2, k3, k4, k5, k6, k7⟩ := run_append_row (P := P) (ty := o.type) (sliceTy_sound ht) hi hzv hzc hownsi (a := ⟨b, off, none⟩) (m := ys.length) (c := c) (news := flat us) (by rw [hsi]; exact hful)
          (fun j q hq => by rw [Addr.add_lit]; exact hS.imm _ _ _ (huc j q hq)) hone (by omega) (by rw [hbi]; exact hbytes) hmx hS.below.size
        rw [hexec _ _ hrun]
        have eqb : (Value.slice Ax k cx).ownBlock = (Value.slice Ax xs.length cx).ownBlock := by cases Ax <;> rfl
        exact finish u' w' (by rw [← hsi]; exact k1) k2 k3 k4 k5 k6 (k7.imp (fun h => h.2.1.trans eqb) (fun h => h.2.1)) (fun j hj hlt => by
          rcases k7 with ⟨_, _, h⟩ | ⟨_, _, h⟩
          · exact h j (by rw [eqb]; exact hj) hlt
          · exact h j hlt)

/-- The address of an element of a row that may be written. -/
theorem holds_indexAddr_ms {t e : TypeId} {size r ver lo len : Nat} {x i : Operand} {xs : List AV} {k : IntKind} {n : Int} (ho : o.op = .indexAddr t x i) (ht : sliceTy P t = some e) (hs : sizeIs P e size = true) (hx : aeval s x = .ms r ver size lo len) (hi : aeval s i = .lit (.int k n)) (h0 : 0 ≤ n) (hn : n.toNat < len) :
    OpHolds P o s id [(r, .mrow ver e size xs)] (.mp r ver [lo + n.toNat] ((lo + n.toNat) * size)) [] := by
  refine holds_read (fun p hp => by simp at hp; subst hp; simp) fun W0 g σ N w a hS hr hp => ?_
  have h1 := hr x (by simp [ho, Op.operands])
  have h2 := hr i (by simp [ho, Op.operands])
  rw [hx] at h1
  rw [hi] at h2
  have e2 := rep_lit_inv h2
  have hp' : σ r = .mrow ver e size xs := hp (r, .mrow ver e size xs) (by simp)
  obtain ⟨u, vs, hmr, hlen, hvl, hvr, hvs, hown⟩ := hS.mrowAt hp'
  obtain ⟨ie, hie, hsi⟩ := sizeIs_sound hs
  generalize hv : a.eval x = v at h1
  cases h1 with
  | ms _ _ _ _ _ ver' u' A c hm' hv' hl hc h =>
    rw [hmr] at hm'; cases hm'
    obtain ⟨A0, n0, c0, rfl, j1, j2, j3⟩ := h rfl
    obtain ⟨b, rfl, rfl⟩ := j3 (by omega)
    obtain ⟨m, rfl⟩ := Int.eq_ofNat_of_zero_le h0
    simp only [Int.toNat_natCast] at hn ⊢
    refine ⟨.pointer (some ⟨b, (lo + m) * size, none⟩), ?_, .mp r ver _ _ ver _ _ hmr (Nat.le_refl _) fun _ => ⟨b, _, _, rfl, rfl⟩⟩
    have hlt : (m : Int) < (len : Int) := by omega
    simp [execOp, ho, hv, e2, Instr.indexAt, asIntOf, run_underlying (sliceTy_sound ht), sizeOf, typeInfo, hie, hsi, Addr.add_lit, Nat.add_mul]
    omega

theorem holds_fieldAddr_mp {t : TypeId} {x : Operand} {f k i ver off : Nat} {path : List Nat} {e : TypeId} {size : Nat} {xs : List AV} (ho : o.op = .fieldAddr t x f) (hx : aeval s x = .mp i ver path off) (hf : fieldOff P t f = some k) :
    OpHolds P o s id [(i, .mrow ver e size xs)] (.mp i ver (path ++ [f]) (off + k)) [] := by
  refine holds_read (fun p hp => by simp at hp; subst hp; simp) fun W0 g σ N w a hS hr hp => ?_
  have h1 := hr x (by simp [ho, Op.operands])
  rw [hx] at h1
  have hp' : σ i = .mrow ver e size xs := hp (i, .mrow ver e size xs) (by simp)
  obtain ⟨u, vs, hmr, _⟩ := hS.mrowAt hp'
  generalize hv : a.eval x = v at h1
  cases h1 with
  | mp _ _ _ _ ver' u' ad hm' hv' h =>
    rw [hmr] at hm'; cases hm'
    obtain ⟨b, n, c, rfl, rfl⟩ := h rfl
    refine ⟨.pointer (some ⟨b, off + k, none⟩), ?_, .mp i ver _ _ ver _ _ hmr (Nat.le_refl _) fun _ => ⟨b, _, _, rfl, rfl⟩⟩
    have := fieldOff_sound hf b off w
    simp only [execOp, ho, hv, Sem.run_bind, this, Result.andThen_ok, Sem.run_pure]

theorem holds_indexAddr_mp {t e : TypeId} {x i : Operand} {j ver off len size : Nat} {path : List Nat} {k : IntKind} {n : Int} {e' : TypeId} {size' : Nat} {xs : List AV} (ho : o.op = .indexAddr t x i) (ht : arrTy P t = some (len, e)) (hs : sizeIs P e size = true) (hx : aeval s x = .mp j ver path off) (hi : aeval s i = .lit (.int k n)) (h0 : 0 ≤ n) (hn : n.toNat < len) :
    OpHolds P o s id [(j, .mrow ver e' size' xs)] (.mp j ver (path ++ [n.toNat]) (off + n.toNat * size)) [] := by
  refine holds_read (fun p hp => by simp at hp; subst hp; simp) fun W0 g σ N w a hS hr hp => ?_
  have h1 := hr x (by simp [ho, Op.operands])
  have h2 := hr i (by simp [ho, Op.operands])
  rw [hx] at h1
  rw [hi] at h2
  have e2 := rep_lit_inv h2
  have hp' : σ j = .mrow ver e' size' xs := hp (j, .mrow ver e' size' xs) (by simp)
  obtain ⟨u, vs, hmr, _⟩ := hS.mrowAt hp'
  obtain ⟨ie, hie, hsi⟩ := sizeIs_sound hs
  generalize hv : a.eval x = v at h1
  cases h1 with
  | mp _ _ _ _ ver' u' ad hm' hv' h =>
    rw [hmr] at hm'; cases hm'
    obtain ⟨b, n', c, rfl, rfl⟩ := h rfl
    obtain ⟨m, rfl⟩ := Int.eq_ofNat_of_zero_le h0
    simp only [Int.toNat_natCast] at hn ⊢
    refine ⟨.pointer (some ⟨b, off + m * size, none⟩), ?_, .mp j ver _ _ ver _ _ hmr (Nat.le_refl _) fun _ => ⟨b, _, _, rfl, rfl⟩⟩
    have hlt : (m : Int) < (len : Int) := by omega
    simp [execOp, ho, hv, e2, Instr.indexAt, asIntOf, run_underlying (arrTy_sound ht), Instr.sureAddr, sizeOf, typeInfo, hie, hsi, Addr.add_lit]
    omega

/-- What lies at a place of a row. -/
theorem row_cells {xs : List AV} {vs : List Value} {path : List Nat} {y : AV} {g : Ghost} (hvl : vs.length = xs.length) (hvr : ∀ (i : Nat) (x : AV) (v : Value), xs[i]? = some x → vs[i]? = some v → Rep g x v) (hg : (AV.agg xs).get path = some y) :
    ∃ u, Rep g y u ∧ (AV.agg xs).offs path + u.cells.size ≤ (flat vs).length ∧ ∀ (j : Nat) (x : Value), u.cells.toList[j]? = some x → (flat vs)[(AV.agg xs).offs path + j]? = some x := by
  obtain ⟨u, h1, h2, h3⟩ := (Rep.agg xs vs hvl hvr).get hg
  exact ⟨u, h1, by simpa [Value.cells] using h2, by simpa [Value.cells] using h3⟩

theorem holds_load_mp {t : TypeId} {x : Operand} {i ver off : Nat} {path : List Nat} {e : TypeId} {size : Nat} {xs : List AV} {y : AV} (ho : o.op = .load t x) (hx : aeval s x = .mp i ver path off) (hy : (AV.agg xs).get path = some y) (hoff : (AV.agg xs).offs path = off) (ht : tyIs P t y.isAgg y.sz = true) :
    OpHolds P o s id [(i, .mrow ver e size xs)] y [] := by
  refine holds_read (fun p hp => by simp at hp; subst hp; simp) fun W0 g σ N w a hS hr hp => ?_
  have h1 := hr x (by simp [ho, Op.operands])
  rw [hx] at h1
  have hp' : σ i = .mrow ver e size xs := hp (i, .mrow ver e size xs) (by simp)
  obtain ⟨u, vs, hmr, hlen, hvl, hvr, hvs, hown⟩ := hS.mrowAt hp'
  obtain ⟨q, hq, hqb, hqc⟩ := row_cells hvl hvr hy
  generalize hv : a.eval x = v at h1
  cases h1 with
  | mp _ _ _ _ ver' u' ad hm' hv' h =>
    rw [hmr] at hm'; cases hm'
    obtain ⟨b, n', c, rfl, rfl⟩ := h rfl
    refine ⟨q, ?_, hq⟩
    have := run_loadAt (P := P) hq ht (b := b) (off := off) (w := w) fun j z hz => by
      rw [← hoff]
      exact hown.cells (g := b) rfl _ _ (hqc j z hz)
    simp [execOp, ho, hv, this]

theorem set_flat {xs : List AV} {vs : List Value} {g : Ghost} (hvl : vs.length = xs.length) (hvr : ∀ (i : Nat) (x : AV) (v : Value), xs[i]? = some x → vs[i]? = some v → Rep g x v) {j : Nat} {p : List Nat} {y z : AV} {u : Value} (hg : (AV.agg xs).get (j :: p) = some y) (hz : Rep g z u) (hs : y.sz = z.sz) :
    ∃ xs' vs', (AV.agg xs).put (j :: p) z = .agg xs' ∧ vs'.length = xs'.length ∧ xs'.length = xs.length ∧ (∀ (i : Nat) (x : AV) (v : Value), xs'[i]? = some x → vs'[i]? = some v → Rep g x v) ∧
      flat vs' = (flat vs).take ((AV.agg xs).offs (j :: p)) ++ u.cells.toList ++ (flat vs).drop ((AV.agg xs).offs (j :: p) + u.cells.size) ∧ (∀ size, (∀ v ∈ vs, v.cells.size = size) → ∀ v ∈ vs', v.cells.size = size) := by
  simp only [AV.get] at hg
  cases hi : xs[j]? with
  | none => rw [hi] at hg; cases hg
  | some q =>
    rw [hi] at hg
    have hlt : j < vs.length := by rw [hvl]; exact (List.getElem?_eq_some_iff.1 hi).1
    have hvj : vs[j]? = some vs[j] := List.getElem?_eq_getElem hlt
    obtain ⟨v', hv', hc'⟩ := (hvr j q _ hi hvj).put hg hz hs
    obtain ⟨wv, hw, hwb, _⟩ := (hvr j q _ hi hvj).get hg
    have hwu : wv.cells.size = u.cells.size := by rw [hw.size, hz.size, hs]
    obtain ⟨hf, hfl⟩ := flat_take_drop xs vs hvl (fun j x w h1 h2 => (hvr j x w h1 h2).size) j _ hvj
    have hsz : v'.cells.size = (vs[j]).cells.size := by
      rw [← Array.length_toList, hc']
      simp only [List.length_append, List.length_take, List.length_drop, Array.length_toList]
      omega
    refine ⟨xs.set j (q.put p z), vs.set j v', by simp only [AV.put, hi], by simp [hvl], by simp, fun i x w h1 h2 => ?_, ?_, fun size hsize v hv => ?_⟩
    · by_cases hij : i = j
      · subst hij
        rw [List.getElem?_set_self (by omega)] at h1
        rw [List.getElem?_set_self hlt] at h2
        cases h1; cases h2; exact hv'
      · rw [List.getElem?_set_ne (Ne.symm hij)] at h1 h2
        exact hvr i x w h1 h2
    · have e1 : flat (vs.set j v') = flat (vs.take j) ++ v'.cells.toList ++ flat (vs.drop (j + 1)) := by
        have hlt' : j < (vs.set j v').length := by simpa using hlt
        have := (List.take_append_drop j (vs.set j v'))
        rw [← this, flat_append, List.drop_eq_getElem_cons hlt', flat_cons]
        have tk : (vs.set j v').take j = vs.take j := by
          apply List.ext_getElem?
          intro i
          rw [List.getElem?_take, List.getElem?_take]
          split
          · rw [List.getElem?_set_ne (by omega)]
          · rfl
        simp [tk, List.drop_set_of_lt, List.append_assoc]
      rw [e1, hc', hf]
      simp only [AV.offs, hi]
      have l1 : (flat (vs.take j)).length = AV.szl (xs.take j) := hfl
      have l2 : q.offs p + u.cells.size ≤ (vs[j]).cells.toList.length := by rw [Array.length_toList]; omega
      rw [List.append_assoc (flat (vs.take j)) (vs[j]).cells.toList (flat (vs.drop (j + 1))), ← l1, List.take_length_add_append, Nat.add_assoc, List.drop_length_add_append, List.take_append_of_le_length (by omega), List.drop_append_of_le_length (by omega)]
      simp [List.append_assoc]
    · rcases List.mem_or_eq_of_mem_set hv with h | h
      · exact hsize v h
      · rw [h, hsz]; exact hsize _ (List.getElem_mem hlt)

/-- Cells of a row are written. -/
theorem row_written {W0 w : World} {e : TypeId} {size b n c off : Nat} {cells news : List Value} (h : ownsR w W0.heap.size e size (.slice (some ⟨b, 0, none⟩) n c) n cells) (hfit : off + news.length ≤ cells.length) (h1 : ∀ v ∈ news, v.oneCell' = true) :
    ∃ w', (storeCells ⟨b, off, none⟩ news 0).run P w = .ok () w' ∧ ownsR w' W0.heap.size e size (.slice (some ⟨b, 0, none⟩) n c) n (cells.take off ++ news ++ cells.drop (off + news.length)) ∧
      w'.os = w.os ∧ w'.tape = w.tape ∧ w'.output = w.output ∧ w.heap.size ≤ w'.heap.size ∧ ∀ j, j ≠ b → w'.heap[j]? = w.heap[j]? := by
  rcases h.2 with ⟨h0, _⟩ | ⟨g0, cap, cur, fz, hv, hb, hheap, hfz, hnc, hcm, hcs, htake⟩
  · simp at h0
  · simp at hv
    obtain ⟨rfl, rfl⟩ := hv
    have hcl : cells.length ≤ cur.size := by rw [h.1, hcs]; exact Nat.mul_le_mul_right _ hnc
    have hst := run_storeCells_fz (P := P) b off e fz news 0 cur w hheap hfz (by simp; omega) h1
    simp only [Nat.add_zero] at hst
    have hcz : (cur.toList.take off ++ news ++ cur.toList.drop (off + news.length)).toArray.size = cur.size := by
      simp only [List.size_toArray, List.length_append, List.length_take, List.length_drop, Array.length_toList]
      omega
    have hlen : (cells.take off ++ news ++ cells.drop (off + news.length)).length = n * size := by
      simp only [List.length_append, List.length_take, List.length_drop, ← h.1]
      omega
    refine ⟨_, hst, ⟨hlen, .inr ⟨b, c, _, fz, rfl, hb, setRow_heap w b _ _ _ _ hheap, by rw [hcz]; exact hfz, hnc, hcm, by rw [hcz]; exact hcs, ?_⟩⟩, rfl, rfl, rfl, by simp [World.setRow], fun j hj => setRow_other w b j _ hj⟩
    have e0 : cells = cur.toList.take (n * size) := htake.symm
    show (cur.toList.take off ++ news ++ cur.toList.drop (off + news.length)).take (n * size) = _
    have l0 : cells.length = n * size := h.1
    have lo : off ≤ n * size := by omega
    rw [e0, List.take_take, Nat.min_eq_left lo, List.drop_take, List.take_append, List.take_append, List.take_take]
    have a1 : (cur.toList.take off).length = off := by rw [List.length_take, Array.length_toList]; omega
    rw [Nat.min_eq_right lo, a1, List.take_of_length_le (l := news) (by omega), List.length_append, a1]

theorem holds_store_mp {t : TypeId} {x y : Operand} {i ver off j : Nat} {p : List Nat} {e : TypeId} {size : Nat} {xs xs' : List AV} {old z : AV} (ho : o.op = .store t x y) (hx : aeval s x = .mp i ver (j :: p) off) (hz : aeval s y = z) (hy : (AV.agg xs).get (j :: p) = some old) (hoff : (AV.agg xs).offs (j :: p) = off)
    (hsz : old.sz = z.sz) (ht : sizeIs P t z.sz = true) (hc : z.cell = true) (hput : (AV.agg xs).put (j :: p) z = .agg xs') : OpHolds P o s id [(i, .mrow ver e size xs)] (.tup []) [(i, .mrow ver e size xs')] := by
  refine ⟨fun p hp => by simp at hp; subst hp; simp, fun q hq => .inr ⟨(i, .mrow ver e size xs), by simp, by simp at hq; subst hq; rfl⟩, fun W0 g σ n w a hS hr _ _ hp => ?_⟩
  have h1 := hr x (by simp [ho, Op.operands])
  have h2 := hr y (by simp [ho, Op.operands])
  rw [hx] at h1
  rw [hz] at h2
  generalize hv : a.eval x = v at h1
  generalize hu : a.eval y = zv at h2
  have hp' : σ i = .mrow ver e size xs := hp (i, .mrow ver e size xs) (by simp)
  obtain ⟨u, vs, hmr, hlen, hvl, hvr, hvs, hown⟩ := hS.mrowAt hp'
  obtain ⟨q, hq, hqb, _⟩ := row_cells hvl hvr hy
  have hqz : q.cells.size = zv.cells.size := by rw [hq.size, h2.size, hsz]
  obtain ⟨xs2, vs', k1, k2, k3, k4, k5, k6⟩ := set_flat hvl hvr hy h2 hsz
  rw [hput] at k1
  cases k1
  cases h1 with
  | mp _ _ _ _ ver' u' ad hm' hv' h =>
    rw [hmr] at hm'; cases hm'
    obtain ⟨b, n', c, rfl, rfl⟩ := h rfl
    simp only [slen] at hlen
    subst hlen
    obtain ⟨w', hst, l1, l2, l3, l4, l5, l6⟩ := row_written (P := P) (off := off) (news := zv.cells.toList) hown (by rw [← hoff, Array.length_toList, ← hqz]; exact hqb) (h2.cell_ok hc)
    obtain ⟨ti, hti, htis⟩ := sizeIs_sound ht
    have hexec : (execOp a.eval o).run P w = .ok .skip w' := by
      simp [execOp, ho, hv, hu, Instr.storeAt, Instr.sureAddr, storeVar, sizeOf, typeInfo, hti, htis, h2.size, hst]
    unfold runsTo
    rw [hexec]
    rw [hoff] at k5
    have e1 : zv.cells.toList.length = zv.cells.size := Array.length_toList
    rw [e1, ← k5] at l1
    obtain ⟨g', hle, hS', _, _⟩ := hS.turnM (ver' := ver) (xs' := xs') (vs' := vs') hp' hmr (.inl ⟨rfl, rfl⟩) (by rw [k3]; exact l1) (by simp [slen, k3]) k2 k4 (k6 size hvs) l2 l3 l4 l5 (.inl rfl) (fun j hj _ => l6 j (fun e => hj (by rw [e]; rfl)))
    exact ⟨g', hle, hS', .tup [] [] rfl fun i x v h _ => by simp at h⟩

theorem holds_len_ms {t e : TypeId} {x : Operand} {r ver size lo len : Nat} (ho : o.op = .call { callee := .builtin .len, args := #[x], argTypes := #[t] }) (ht : sliceTy P t = some e) (hx : aeval s x = .ms r ver size lo len) : OpHolds P o s id [] (.lit (.int .i64 len)) [] :=
  holds_pure fun g w a hr => by
    have h1 := hr x (by simp [ho, Op.operands, Call.operands])
    rw [hx] at h1
    obtain ⟨cs, he⟩ := execOp_builtin (P := P) (a := a) ho w
    generalize hv : a.eval x = v at h1
    cases h1
    refine ⟨_, ?_, .lit _ rfl⟩
    rw [he]
    simp [builtin, Builtin.len_, hv, run_underlying (sliceTy_sound ht), goInt]

/-- A part of a row that may be written. -/
theorem holds_slice_ms {t e : TypeId} {x : Operand} {lo hi : Option Operand} {r ver size l0 len l h : Nat} {xs : List AV} (ho : o.op = .slice t x lo hi none) (ht : sliceTy P t = some e) (hs : sizeIs P e size = true) (hx : aeval s x = .ms r ver size l0 len)
    (hl : bnd s 0 lo = some l) (hh : bnd s len hi = some h) (h1 : l ≤ h) (h2 : h ≤ len) : OpHolds P o s id [(r, .mrow ver e size xs)] (.ms r ver size (l0 + l) (h - l)) [] := by
  refine holds_read (fun p hp => by simp at hp; subst hp; simp) fun W0 g σ N w a hS hr hp => ?_
  have h3 := hr x (by simp [ho, Op.operands])
  have hlo : ∀ x, lo = some x → Rep g (aeval s x) (a.eval x) := fun x hx => hr x (by simp [ho, Op.operands, hx])
  have hhi : ∀ x, hi = some x → Rep g (aeval s x) (a.eval x) := fun x hx => hr x (by simp [ho, Op.operands, hx])
  rw [hx] at h3
  have hp' : σ r = .mrow ver e size xs := hp (r, .mrow ver e size xs) (by simp)
  obtain ⟨u, vs, hmr, hlen, hvl, hvr, hvs, hown⟩ := hS.mrowAt hp'
  obtain ⟨ie, hie, hsi⟩ := sizeIs_sound hs
  generalize hv : a.eval x = v at h3
  cases h3 with
  | ms _ _ _ _ _ ver' u' A c hm' hv' hlc hc hM =>
    rw [hmr] at hm'; cases hm'
    obtain ⟨A0, n0, c0, rfl, j1, j2, j3⟩ := hM rfl
    have hb := run_bounds (P := P) hl hh hlo hhi h1 (by omega : h ≤ c) true w
    refine ⟨.slice (if c = l then A else A.map (·.add (l * size))) (h - l) (c - l), ?_, .ms r ver size (l0 + l) (h - l) ver _ _ (c - l) hmr (Nat.le_refl _) (by omega) (by omega) fun _ => ⟨A0, n0, c0, rfl, ?_, fun hz => ?_, fun hz => ?_⟩⟩
    · simp only [execOp, ho, Sem.run_bind, Instr.sliceAt, run_underlying (sliceTy_sound ht), Result.andThen_ok, hv, Instr.slice, Option.map_none, hb, sizeOf, typeInfo, run_program, hie, Sem.run_pure, hsi]
    · have : l0 + len ≤ c0 := j1
      omega
    · have hl0 : l0 = 0 := by omega
      have hl' : l = 0 := by omega
      subst hl0 hl'
      obtain ⟨rfl, rfl⟩ := j2 rfl
      refine ⟨?_, by omega⟩
      split
      · rfl
      · cases A <;> simp [Addr.add]
    · obtain ⟨b, rfl, rfl⟩ := j3 (by omega)
      refine ⟨b, rfl, ?_⟩
      rw [if_neg (by omega)]
      simp [Addr.add_lit, Nat.add_mul]
end
end Go.Ab
