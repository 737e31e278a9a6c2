/- copy, clear; the bytes of a string; values of interface type. -/
import Derived.Test.YtaelnglalpiemaaDoorA13
import Derived.Laws.Build
namespace Go.Ab
open Go.RowKit

section
variable {P : Program} {o : Oper} {s : Slots} {id : Nat}

/-- What a copy reads: the first elements of a slice, or of a string. -/
def copySrc : AV → Option (List AV)
  | .lit (.string b) => some (b.data.toList.map byteAV)
  | x => x.elems

theorem byteVals_rep (g : Ghost) (l : List UInt8) : ∀ (i : Nat) (x : AV) (v : Value), (l.map byteAV)[i]? = some x → (l.map fun b => Value.int .u8 (b.toNat : Int))[i]? = some v → Rep g x v := by
  intro i x v hx hv
  rw [List.getElem?_map] at hx hv
  cases hl : l[i]? with
  | none => rw [hl] at hx; cases hx
  | some b => rw [hl] at hx hv; cases hx; cases hv; exact .lit _ rfl

/-- A source, as values: its length, and its first elements' cells. -/
theorem copySrc_vals {W0 : World} {g : Ghost} {σ : Nat → Ent} {n : Nat} {w : World} (hS : Sim W0 g σ n w) {size : Nat} {Y : AV} {y : Value} {ys : List AV} (hY : copySrc Y = some ys) (hry : Rep g Y y) (hsy : ys.all (fun x => x.sz == size) = true) :
    (Builtin.lenOf y).run P w = .ok ys.length w ∧ ∃ us : List Value, us.length = ys.length ∧ (∀ (i : Nat) (x : AV) (v : Value), ys[i]? = some x → us[i]? = some v → Rep g x v) ∧ (∀ v ∈ us, v.cells.size = size) ∧
      ∀ m, m ≤ ys.length → (Builtin.firstCells size m y).run P w = .ok (flat (us.take m)).toArray w := by
  by_cases hstr : ∃ b, Y = .lit (.string b)
  · obtain ⟨b, rfl⟩ := hstr
    simp only [copySrc, Option.some.injEq] at hY
    subst hY
    have e := rep_lit_inv hry
    subst e
    have hus : ∀ v ∈ (b.data.toList.map fun b => Value.int .u8 (b.toNat : Int)), v.cells.size = 1 := fun v hv => by obtain ⟨b, _, rfl⟩ := List.mem_map.1 hv; rfl
    refine ⟨by simp [Builtin.lenOf], b.data.toList.map fun b => Value.int .u8 (b.toNat : Int), by simp, byteVals_rep g _, fun v hv => ?_, fun m hm => ?_⟩
    · obtain ⟨i, hi⟩ := List.getElem?_of_mem hv
      have hl : i < b.data.toList.length := by simpa using (List.getElem?_eq_some_iff.1 hi).1
      have := List.all_eq_true.1 hsy (byteAV (b.data.toList[i])) (List.mem_map.2 ⟨_, List.getElem_mem hl, rfl⟩)
      rw [hus v hv]
      simpa [byteAV_sz] using this
    · rw [flat_lits _ fun v hv => by obtain ⟨b, _, rfl⟩ := List.mem_map.1 (List.mem_of_mem_take hv); rfl]
      have hm' : m ≤ b.size := by simpa using hm
      have : (b.extract 0 m).data.toList = b.data.toList.take m := by
        simp [ByteArray.extract, ByteArray.copySlice]
      simp only [Builtin.firstCells, Sem.run_pure]
      congr 1
      apply Array.ext'
      simp [this, List.map_take]
  · have hY' : Y.elems = some ys := by
      unfold copySrc at hY
      split at hY
      · rename_i b; exact absurd ⟨b, rfl⟩ hstr
      · exact hY
    obtain ⟨A, m0, c, us, rfl, rfl, hul, hur, hus, huc⟩ := elems_vals hY' hry hsy
    refine ⟨by simp [Builtin.lenOf], us, hul, hur, hus, fun m hm => ?_⟩
    have hfl : (flat (us.take m)).length = m * size := by rw [flat_length _ size (fun v hv => hus v (List.mem_of_mem_take hv)), List.length_take]; congr 1; omega
    rcases huc with h0 | ⟨b, off, rfl, huc⟩
    · have hm0 : m = 0 := by omega
      subst hm0
      cases A with
      | none => simp [Builtin.firstCells, flat]
      | some ad => simp [Builtin.firstCells, flat, loadCells, loadCellsFrom]
    · have := run_firstCells_some (P := P) w size m ⟨b, off, none⟩ ys.length c (flat (us.take m)) hfl fun j v hv => by
        rw [Addr.add_lit]
        refine hS.imm _ _ _ (huc j v ?_)
        rw [flat_take us size hus, List.getElem?_take] at hv
        split at hv
        · exact hv
        · cases hv
      exact this

/-- Elements of a row, some of them others. -/
theorem spliced {g : Ghost} {xs ys : List AV} {vs us : List Value} {size lo m : Nat} (hvl : vs.length = xs.length) (hul : us.length = ys.length) (hvr : ∀ (i : Nat) (x : AV) (v : Value), xs[i]? = some x → vs[i]? = some v → Rep g x v)
    (hur : ∀ (i : Nat) (x : AV) (v : Value), ys[i]? = some x → us[i]? = some v → Rep g x v) (hvs : ∀ v ∈ vs, v.cells.size = size) (hus : ∀ v ∈ us, v.cells.size = size) (h1 : lo + m ≤ xs.length) (h2 : m ≤ ys.length) :
    (vs.take lo ++ us.take m ++ vs.drop (lo + m)).length = (xs.take lo ++ ys.take m ++ xs.drop (lo + m)).length ∧ (xs.take lo ++ ys.take m ++ xs.drop (lo + m)).length = xs.length ∧
    (∀ (i : Nat) (x : AV) (v : Value), (xs.take lo ++ ys.take m ++ xs.drop (lo + m))[i]? = some x → (vs.take lo ++ us.take m ++ vs.drop (lo + m))[i]? = some v → Rep g x v) ∧ (∀ v ∈ vs.take lo ++ us.take m ++ vs.drop (lo + m), v.cells.size = size) ∧
    flat (vs.take lo ++ us.take m ++ vs.drop (lo + m)) = (flat vs).take (lo * size) ++ flat (us.take m) ++ (flat vs).drop (lo * size + (flat (us.take m)).length) := by
  have a1 : (xs.take lo).length = lo := by rw [List.length_take]; omega
  have a2 : (vs.take lo).length = lo := by rw [List.length_take]; omega
  have a3 : (ys.take m).length = m := by rw [List.length_take]; omega
  have a4 : (us.take m).length = m := by rw [List.length_take]; omega
  refine ⟨by simp; omega, by simp; omega, fun i x v hx hv => ?_, fun v hv => ?_, ?_⟩
  · by_cases hi : i < lo
    · rw [List.getElem?_append_left (by simp; omega), List.getElem?_append_left (by omega), List.getElem?_take, if_pos hi] at hx
      rw [List.getElem?_append_left (by simp; omega), List.getElem?_append_left (by omega), List.getElem?_take, if_pos hi] at hv
      exact hvr _ x v hx hv
    · by_cases hj : i < lo + m
      · rw [List.getElem?_append_left (by simp; omega), List.getElem?_append_right (by omega), a1, List.getElem?_take, if_pos (by omega)] at hx
        rw [List.getElem?_append_left (by simp; omega), List.getElem?_append_right (by omega), a2, List.getElem?_take, if_pos (by omega)] at hv
        exact hur _ x v hx hv
      · have e1 : (xs.take lo ++ ys.take m).length = lo + m := by simp [a1, a3]
        have e2 : (vs.take lo ++ us.take m).length = lo + m := by simp [a2, a4]
        rw [List.getElem?_append_right (by omega), e1, List.getElem?_drop] at hx
        rw [List.getElem?_append_right (by omega), e2, List.getElem?_drop] at hv
        exact hvr _ x v hx hv
  · rcases List.mem_append.1 hv with hv | hv
    · rcases List.mem_append.1 hv with hv | hv
      · exact hvs v (List.mem_of_mem_take hv)
      · exact hus v (List.mem_of_mem_take hv)
    · exact hvs v (List.mem_of_mem_drop hv)
  · have hf : (flat (us.take m)).length = m * size := by rw [flat_length _ size (fun v hv => hus v (List.mem_of_mem_take hv)), a4]
    rw [flat_append, flat_append, flat_take _ size hvs, flat_drop _ size hvs, hf, Nat.add_mul]

theorem run_copy {w w' : World} {dT sT ty elem : TypeId} {size n m len c : Nat} {A : Option Addr} {y : Value} {news : List Value} (hu : P.underlying dT = some (.slice elem)) (hs : sizeIs P elem size = true)
    (h1 : (Builtin.lenOf y).run P w = .ok n w) (hm : m = Nat.min n len) (h2 : (Builtin.firstCells size m y).run P w = .ok news.toArray w) (h3 : (match A with | some a => storeCells a news 0 | none => pure ()).run P w = .ok () w') :
    (Builtin.copy_ #[dT, sT] ty #[.slice A len c, y]).run P w = .ok (.int .i64 m) w' := by
  obtain ⟨ie, hie, hsi⟩ := sizeIs_sound hs
  subst hm
  cases A with
  | none =>
    simp at h3
    subst h3
    simp [Builtin.copy_, run_underlying hu, h1, sizeOf, typeInfo, hie, hsi, h2, goInt]
  | some a =>
    simp at h3
    simp [Builtin.copy_, run_underlying hu, h1, sizeOf, typeInfo, hie, hsi, h2, h3, goInt]

/-- copy into a row that may be written. -/
theorem holds_copy_ms {t ts e : TypeId} {size r ver lo len m : Nat} {x y : Operand} {Y : AV} {xs ys : List AV} (ho : o.op = .call { callee := .builtin .copy, args := #[x, y], argTypes := #[t, ts] }) (ht : sliceTy P t = some e) (hs : sizeIs P e size = true)
    (hx : aeval s x = .ms r ver size lo len) (hlen : lo + len ≤ xs.length) (hy : aeval s y = Y) (hY : copySrc Y = some ys) (hsy : ys.all (fun x => x.sz == size && x.cell) = true) (hm : m = Nat.min ys.length len) :
    OpHolds P o s id [(r, .mrow ver e size xs)] (.lit (.int .i64 m)) [(r, .mrow ver e size (xs.take lo ++ ys.take m ++ xs.drop (lo + m)))] := by
  refine ⟨fun p hp => by simp at hp; subst hp; simp, fun q hq => .inr ⟨(r, .mrow ver e size xs), by simp, by simp at hq; subst hq; rfl⟩, fun W0 g σ n w a hS hr _ _ hp => ?_⟩
  have h1 := hr x (by simp [ho, Op.operands, Call.operands])
  have h2 := hr y (by simp [ho, Op.operands, Call.operands])
  rw [hx] at h1
  rw [hy] at h2
  have hp' : σ r = .mrow ver e size xs := hp (r, .mrow ver e size xs) (by simp)
  obtain ⟨cs, he⟩ := execOp_builtin (P := P) (a := a) ho w
  obtain ⟨u, vs, hmr, hsl, hvl, hvr, hvs, hown⟩ := hS.mrowAt hp'
  have hsy1 : ys.all (fun x => x.sz == size) = true := by
    rw [List.all_eq_true] at hsy ⊢
    intro x hx
    have := hsy x hx
    simp only [Bool.and_eq_true] at this
    exact this.1
  generalize hv : a.eval x = v at h1
  generalize hw : a.eval y = yv at h2
  obtain ⟨k1, us, k2, k3, k4, k5⟩ := copySrc_vals (P := P) hS hY h2 hsy1
  have hmy : m ≤ ys.length := by rw [hm]; exact Nat.min_le_left _ _
  have hml : m ≤ len := by rw [hm]; exact Nat.min_le_right _ _
  obtain ⟨s1, s2, s3, s4, s5⟩ := spliced (lo := lo) (m := m) hvl k2 hvr k3 hvs k4 (by omega) hmy
  have hone : ∀ q ∈ flat (us.take m), q.oneCell' = true := by
    intro q hq
    obtain ⟨v, hv, hq⟩ := mem_flat.1 hq
    obtain ⟨j, hj⟩ := List.getElem?_of_mem (List.mem_of_mem_take hv)
    have hlt : j < ys.length := by rw [← k2]; exact (List.getElem?_eq_some_iff.1 hj).1
    have hc := List.all_eq_true.1 hsy ys[j] (List.getElem_mem hlt)
    simp only [Bool.and_eq_true] at hc
    exact (k3 j _ v (List.getElem?_eq_getElem hlt) hj).cell_ok hc.2 q hq
  have hfl : (flat (us.take m)).length = m * size := by rw [flat_length _ size (fun v hv => k4 v (List.mem_of_mem_take hv)), List.length_take]; congr 1; omega
  cases h1 with
  | ms _ _ _ _ _ ver' u' A c hm' hv' hl hc h =>
    rw [hmr] at hm'; cases hm'
    obtain ⟨A0, n0, c0, rfl, j1, j2, j3⟩ := h rfl
    simp only [slen] at hsl
    subst hsl
    have store : ∃ w', (match A with | some a => storeCells a (flat (us.take m)) 0 | none => pure ()).run P w = .ok () w' ∧ ∃ g', g.le g' ∧ Sim W0 g' (upd σ r (.mrow ver e size (xs.take lo ++ ys.take m ++ xs.drop (lo + m)))) n w' := by
      by_cases hm0 : m = 0
      · refine ⟨w, ?_, g, g.le_refl, ?_⟩
        · subst hm0
          cases A <;> simp [flat, storeCells]
        · have e1 : xs.take lo ++ ys.take m ++ xs.drop (lo + m) = xs := by rw [hm0]; simp
          rw [e1]
          have e2 : upd σ r (.mrow ver e size xs) = σ := by
            funext i
            by_cases hi : i = r
            · subst hi; rw [upd_same, hp']
            · rw [upd_ne _ _ _ _ hi]
          rw [e2]; exact hS
      · obtain ⟨b, rfl, rfl⟩ := j3 (by omega)
        obtain ⟨w', hst, l1, l2, l3, l4, l5, l6⟩ := row_written (P := P) (off := lo * size) (news := flat (us.take m)) hown (by
          rw [hfl, hown.1, ← Nat.add_mul]; exact Nat.mul_le_mul_right _ (by omega)) hone
        rw [← s5] at l1
        obtain ⟨g', hle, hS', _, _⟩ := hS.turnM (ver' := ver) (vs' := vs.take lo ++ us.take m ++ vs.drop (lo + m)) hp' hmr (.inl ⟨rfl, rfl⟩) (by rw [s2]; exact l1) (by simp only [slen]; rw [s2]) s1 s3 s4 l2 l3 l4 l5 (.inl rfl) (fun j hj _ => l6 j (fun e => hj (by rw [e]; rfl)))
        exact ⟨w', hst, g', hle, hS'⟩
    obtain ⟨w', hst, g', hle, hS'⟩ := store
    have hrun := run_copy (P := P) (ty := o.type) (sT := ts) (c := c) (sliceTy_sound ht) hs k1 hm (k5 m hmy) hst
    unfold runsTo
    have hexec : (execOp a.eval o).run P w = .ok (.value (.int .i64 m)) w' := by
      rw [he]
      simp [builtin, hv, hw, hrun]
    rw [hexec]
    exact ⟨g', hle, hS', .lit _ rfl⟩

theorem list_splice2 {α : Type} (L N T : List α) (q a : Nat) (hT : T = (L.drop q).take (T.length)) (hq : q + T.length ≤ L.length) (hab : a + N.length ≤ T.length) :
    L.take q ++ (T.take a ++ N ++ T.drop (a + N.length)) ++ L.drop (q + T.length) = L.take (q + a) ++ N ++ L.drop (q + a + N.length) := by
  apply List.ext_getElem?
  intro j
  have lq : (L.take q).length = q := by rw [List.length_take]; omega
  have la : (T.take a).length = a := by rw [List.length_take]; omega
  have lqa : (L.take (q + a)).length = q + a := by rw [List.length_take]; omega
  have lm : (T.take a ++ N ++ T.drop (a + N.length)).length = T.length := by simp; omega
  have hTj : ∀ i, i < T.length → T[i]? = L[q + i]? := fun i hi => by
    rw [hT, List.getElem?_take, if_pos hi, List.getElem?_drop]
  by_cases h1 : j < q
  · rw [List.getElem?_append_left (by simp; omega), List.getElem?_append_left (by omega), List.getElem?_append_left (by simp; omega), List.getElem?_append_left (by omega), List.getElem?_take, List.getElem?_take, if_pos h1, if_pos (by omega)]
  · by_cases h2 : j < q + a
    · rw [List.getElem?_append_left (by simp only [List.length_append, lq] at *; omega), List.getElem?_append_right (by omega), List.getElem?_append_left (by simp; omega), List.getElem?_append_left (by omega), List.getElem?_take, if_pos (by omega), lq, hTj _ (by omega),
        List.getElem?_append_left (by simp; omega), List.getElem?_append_left (by omega), List.getElem?_take, if_pos h2]
      congr 1; omega
    · by_cases h3 : j < q + a + N.length
      · rw [List.getElem?_append_left (by simp only [List.length_append, lq] at *; omega), List.getElem?_append_right (by omega), lq, List.getElem?_append_left (by simp; omega), List.getElem?_append_right (by omega), la,
          List.getElem?_append_left (by simp; omega), List.getElem?_append_right (by omega), lqa]
        congr 1; omega
      · have e1 : (T.take a ++ N).length = a + N.length := by simp; omega
        have e2 : (L.take (q + a) ++ N).length = q + a + N.length := by simp; omega
        rw [List.getElem?_append_right (l₁ := L.take (q + a) ++ N) (by omega), e2, List.getElem?_drop]
        by_cases h4 : j < q + T.length
        · rw [List.getElem?_append_left (by simp only [List.length_append, lq] at *; omega), List.getElem?_append_right (by omega), lq, List.getElem?_append_right (by omega), e1, List.getElem?_drop, hTj _ (by omega)]
          congr 1; omega
        · have e3 : (L.take q ++ (T.take a ++ N ++ T.drop (a + N.length))).length = q + T.length := by simp only [List.length_append] at lm ⊢; omega
          rw [List.getElem?_append_right (by omega), e3, List.getElem?_drop]
          congr 1; omega

/-- copy into an array that lies in a box. -/
theorem holds_copy_bs {t ts e : TypeId} {size r lo off len m : Nat} {path : List Nat} {x y : Operand} {Y : AV} {bt : TypeId} {c : AV} {xs ys : List AV} (ho : o.op = .call { callee := .builtin .copy, args := #[x, y], argTypes := #[t, ts] }) (ht : sliceTy P t = some e) (hs : sizeIs P e size = true)
    (hx : aeval s x = .bs r path lo off len) (hc0 : c.get path = some (.agg xs)) (hoff : c.offs path + lo * size = off) (hsx : xs.all (fun x => x.sz == size) = true) (hlen : lo + len ≤ xs.length) (hy : aeval s y = Y) (hY : copySrc Y = some ys) (hsy : ys.all (fun x => x.sz == size && x.cell) = true) (hm : m = Nat.min ys.length len) :
    OpHolds P o s id [(r, .box bt c)] (.lit (.int .i64 m)) [(r, .box bt (c.put path (.agg (xs.take lo ++ ys.take m ++ xs.drop (lo + m)))))] := by
  refine ⟨fun p hp => by simp at hp; subst hp; simp, fun q hq => .inr ⟨(r, .box bt c), by simp, by simp at hq; subst hq; rfl⟩, fun W0 g σ n w a hS hr _ _ hp => ?_⟩
  have h1 := hr x (by simp [ho, Op.operands, Call.operands])
  have h2 := hr y (by simp [ho, Op.operands, Call.operands])
  rw [hx] at h1
  rw [hy] at h2
  have hp' : σ r = .box bt c := hp (r, .box bt c) (by simp)
  obtain ⟨cs, he⟩ := execOp_builtin (P := P) (a := a) ho w
  obtain ⟨b, v0, hloc, _, hrep, hheap, _⟩ := hS.box r bt c hp'
  obtain ⟨u0, hu0, hub, huc⟩ := hrep.get hc0
  have hsy1 : ys.all (fun x => x.sz == size) = true := by
    rw [List.all_eq_true] at hsy ⊢
    intro x hx
    have := hsy x hx
    simp only [Bool.and_eq_true] at this
    exact this.1
  generalize hv : a.eval x = v at h1
  generalize hw : a.eval y = yv at h2
  obtain ⟨k1, us, k2, k3, k4, k5⟩ := copySrc_vals (P := P) hS hY h2 hsy1
  have hmy : m ≤ ys.length := by rw [hm]; exact Nat.min_le_left _ _
  have hml : m ≤ len := by rw [hm]; exact Nat.min_le_right _ _
  have hone : ∀ q ∈ flat (us.take m), q.oneCell' = true := by
    intro q hq
    obtain ⟨v, hv, hq⟩ := mem_flat.1 hq
    obtain ⟨j, hj⟩ := List.getElem?_of_mem (List.mem_of_mem_take hv)
    have hlt : j < ys.length := by rw [← k2]; exact (List.getElem?_eq_some_iff.1 hj).1
    have hc := List.all_eq_true.1 hsy ys[j] (List.getElem_mem hlt)
    simp only [Bool.and_eq_true] at hc
    exact (k3 j _ v (List.getElem?_eq_getElem hlt) hj).cell_ok hc.2 q hq
  have hfl : (flat (us.take m)).length = m * size := by rw [flat_length _ size (fun v hv => k4 v (List.mem_of_mem_take hv)), List.length_take]; congr 1; omega
  cases h1 with
  | bs _ _ _ _ _ b' cap hb' hl hc =>
    rw [hloc] at hb'; cases hb'
    cases hu0 with
    | agg _ vs hvl hvr =>
      have hvs := sizes_of hvl hvr hsx
      obtain ⟨s1, s2, s3, s4, s5⟩ := spliced (lo := lo) (m := m) hvl k2 hvr k3 hvs k4 (by omega) hmy
      have hz : Rep g (.agg (xs.take lo ++ ys.take m ++ xs.drop (lo + m))) (.agg (flat (vs.take lo ++ us.take m ++ vs.drop (lo + m))).toArray) := .agg _ _ s1 s3
      have hflv : (flat vs).length = xs.length * size := by rw [flat_length vs size hvs, hvl]
      have hzl : (flat (vs.take lo ++ us.take m ++ vs.drop (lo + m))).length = (flat vs).length := by rw [flat_length _ size s4, hflv, s1, s2]
      have hsz : (AV.agg xs).sz = (AV.agg (xs.take lo ++ ys.take m ++ xs.drop (lo + m))).sz := by
        have e1 := (Rep.agg (g := g) xs vs hvl hvr).size
        have e2 := hz.size
        rw [← e1, ← e2]
        simp only [Value.cells, List.size_toArray]
        exact hzl.symm
      obtain ⟨v', hv', hvc⟩ := hrep.put hc0 hz hsz
      have hmulle : (lo + m) * size ≤ xs.length * size := Nat.mul_le_mul_right _ (by omega)
      have hub' : c.offs path + (flat vs).length ≤ v0.cells.toList.length := by
        rw [cells_agg, List.size_toArray] at hub
        rw [Array.length_toList]; exact hub
      have hT : flat vs = (v0.cells.toList.drop (c.offs path)).take (flat vs).length := by
        apply List.ext_getElem?
        intro j
        rw [List.getElem?_take, List.getElem?_drop]
        split
        · rename_i hj
          rw [List.getElem?_eq_getElem hj]
          exact (huc j _ (by rw [cells_agg, List.toList_toArray, List.getElem?_eq_getElem hj])).symm
        · rename_i hj
          rw [List.getElem?_eq_none (by omega)]
      have hnew : v'.cells.toList = v0.cells.toList.take off ++ flat (us.take m) ++ v0.cells.toList.drop (off + (flat (us.take m)).length) := by
        rw [hvc]
        rw [cells_agg, List.toList_toArray, List.size_toArray]
        rw [hzl, s5, list_splice2 v0.cells.toList (flat (us.take m)) (flat vs) (c.offs path) (lo * size) hT hub' (by rw [hfl, hflv, ← Nat.add_mul]; exact hmulle), hoff]
      have hfit : off + (flat (us.take m)).length ≤ v0.cells.size := by
        rw [hfl, ← hoff, Nat.add_assoc, ← Nat.add_mul]
        have : v0.cells.toList.length = v0.cells.size := Array.length_toList
        omega
      have hst := run_storeCells_fz (P := P) b off bt (0, 0) (flat (us.take m)) 0 v0.cells w hheap (noFz_zero _) (by simpa using hfit) hone
      simp only [Nat.add_zero] at hst
      rw [← hnew] at hst
      have hrun := run_copy (P := P) (ty := o.type) (sT := ts) (c := cap) (A := some ⟨b, off, none⟩) (sliceTy_sound ht) hs k1 hm (k5 m hmy) hst
      unfold runsTo
      have hexec : (execOp a.eval o).run P w = .ok (.value (.int .i64 m)) (w.setRow b v'.cells.toList.toArray) := by
        rw [he]
        simp [builtin, hv, hw, hrun]
      rw [hexec, Array.toArray_toList]
      exact ⟨g, g.le_refl, hS.store hp' hloc hv', .lit _ rfl⟩

/-- clear of a part of a row that may be written. -/
theorem holds_clear_ms {t e : TypeId} {size r ver lo len : Nat} {x : Operand} {xs : List AV} {z : AV} (ho : o.op = .call { callee := .builtin .clear, args := #[x], argTypes := #[t] }) (ht : sliceTy P t = some e) (hs : sizeIs P e size = true) (hz : ztree P e = some z) (hzs : z.sz = size) (hzc : z.cell = true) (hpos : 0 < size)
    (hx : aeval s x = .ms r ver size lo len) (hlen : lo + len ≤ xs.length) :
    OpHolds P o s id [(r, .mrow ver e size xs)] (.tup []) [(r, .mrow ver e size (xs.take lo ++ (List.replicate len z).take len ++ xs.drop (lo + len)))] := by
  refine ⟨fun p hp => by simp at hp; subst hp; simp, fun q hq => .inr ⟨(r, .mrow ver e size xs), by simp, by simp at hq; subst hq; rfl⟩, fun W0 g σ n w a hS hr _ _ hp => ?_⟩
  have h1 := hr x (by simp [ho, Op.operands, Call.operands])
  rw [hx] at h1
  have hp' : σ r = .mrow ver e size xs := hp (r, .mrow ver e size xs) (by simp)
  obtain ⟨cs, he⟩ := execOp_builtin (P := P) (a := a) ho w
  obtain ⟨u, vs, hmr, hsl, hvl, hvr, hvs, hown⟩ := hS.mrowAt hp'
  obtain ⟨i, zv, hi, hzv, hrz⟩ := ztree_sound hz g
  obtain ⟨ie, hie, hsi⟩ := sizeIs_sound hs
  rw [hi] at hie; cases hie
  have hzsz : zv.cells.size = size := by rw [hrz.size, hzs]
  have hall : ∀ v ∈ List.replicate len zv, v.cells.size = size := fun v hv => by rw [List.eq_of_mem_replicate hv]; exact hzsz
  obtain ⟨s1, s2, s3, s4, s5⟩ := spliced (ys := List.replicate len z) (us := List.replicate len zv) (lo := lo) (m := len) hvl (by simp) hvr (rep_replicate hrz len) hvs hall (by omega) (by simp)
  generalize hv : a.eval x = v at h1
  have hnews : flat ((List.replicate len zv).take len) = (Builtin.zeroCells zv.cells len).toList := by
    rw [List.take_of_length_le (by simp)]
    have := flat_replicate len zv size hzsz hpos
    rw [← this]
    simp [Builtin.zeroCells, hzsz]
  have hfl : (flat ((List.replicate len zv).take len)).length = len * size := by rw [flat_length _ size (fun v hv => hall v (List.mem_of_mem_take hv)), List.length_take]; simp
  have hone : ∀ q ∈ flat ((List.replicate len zv).take len), q.oneCell' = true := by
    intro q hq
    obtain ⟨v, hv, hq⟩ := mem_flat.1 hq
    rw [List.eq_of_mem_replicate (List.mem_of_mem_take hv)] at hq
    exact hrz.cell_ok hzc q hq
  cases h1 with
  | ms _ _ _ _ _ ver' u' A c hm' hv' hl hc h =>
    rw [hmr] at hm'; cases hm'
    obtain ⟨A0, n0, c0, rfl, j1, j2, j3⟩ := h rfl
    simp only [slen] at hsl
    subst hsl
    unfold runsTo
    by_cases hm0 : len = 0
    · subst hm0
      have hexec : (execOp a.eval o).run P w = .ok (.value (.tuple #[])) w := by
        rw [he]
        cases A <;> simp [builtin, hv, Builtin.clear_, run_underlying (sliceTy_sound ht)]
      rw [hexec]
      refine ⟨g, g.le_refl, ?_, .tup [] [] rfl fun i x v h _ => by simp at h⟩
      have e1 : xs.take lo ++ (List.replicate 0 z).take 0 ++ xs.drop (lo + 0) = xs := by simp
      have e2 : upd σ r (.mrow ver e size xs) = σ := by
        funext i
        by_cases hi : i = r
        · subst hi; rw [upd_same, hp']
        · rw [upd_ne _ _ _ _ hi]
      show Sim W0 g (upd σ r _) n w
      rw [e1, e2]; exact hS
    · obtain ⟨b, rfl, rfl⟩ := j3 (by omega)
      obtain ⟨w', hst, l1, l2, l3, l4, l5, l6⟩ := row_written (P := P) (off := lo * size) (news := flat ((List.replicate len zv).take len)) hown (by
        rw [hfl, hown.1, ← Nat.add_mul]; exact Nat.mul_le_mul_right _ (by omega)) hone
      rw [hnews] at hst
      rw [← s5] at l1
      obtain ⟨g', hle, hS', _, _⟩ := hS.turnM (ver' := ver) (vs' := vs.take lo ++ (List.replicate len zv).take len ++ vs.drop (lo + len)) hp' hmr (.inl ⟨rfl, rfl⟩) (by rw [s2]; exact l1) (by simp only [slen]; rw [s2]) s1 s3 s4 l2 l3 l4 l5 (.inl rfl) (fun j hj _ => l6 j (fun e => hj (by rw [e]; rfl)))
      obtain ⟨len', rfl⟩ : ∃ k, len = k + 1 := ⟨len - 1, by omega⟩
      have hexec : (execOp a.eval o).run P w = .ok (.value (.tuple #[])) w' := by
        rw [he]
        simp [builtin, hv, Builtin.clear_, run_underlying (sliceTy_sound ht), zeroValue, typeInfo, hi, hzv, hst]
      rw [hexec]
      exact ⟨g', hle, hS', .tup [] [] rfl fun i x v h _ => by simp at h⟩

/-- The bytes of a string, as a row. -/
theorem holds_convert_str_bytes {src dst e : TypeId} {x : Operand} {b : ByteArray} (ho : o.op = .convert src dst x) (hs : strTy P src = true) (hd : sliceTy P dst = some e) (he : byteTy P e = true) (h1 : sizeIs P e 1 = true) (hx : aeval s x = .lit (.string b)) (hb : b.size ≤ maxLen) :
    OpHolds P o s id [] (.ms id 0 1 0 b.size) [(id, .mrow 0 e 1 (b.data.toList.map byteAV))] := by
  refine ⟨fun p hp => (by cases hp), fun q hq => .inl (by simp at hq; subst hq; rfl), fun W0 g σ n w a hS hr hf hn _ => ?_⟩
  have h2 := hr x (by simp [ho, Op.operands])
  rw [hx] at h2
  have e2 := rep_lit_inv h2
  have heu : P.underlying e = some (.int .u8) := by
    unfold byteTy at he
    split at he
    · assumption
    · cases he
  have hrun := run_bytes_of_string (P := P) w src dst e b (strTy_sound hs) (sliceTy_sound hd) heu
  have hge := grownCap_ge w b.size 0 e
  have hcm := grownCap_le_maxLen w b.size 0 e hb
  let vs : List Value := b.data.toList.map fun c => Value.int .u8 (c.toNat : Int)
  have hlits : ∀ v ∈ vs, v.oneCell' = true := fun v hv => by obtain ⟨c, _, rfl⟩ := List.mem_map.1 hv; rfl
  have hxs : (b.data.toList.map byteAV).length = b.size := by simp
  have hdrew : Sim W0 g σ n w.drew := hS.drew
  obtain ⟨g', hle, hS', hrp⟩ := hdrew.newM (k := id) (e := e) (size := 1) (xs := b.data.toList.map byteAV) (vs := vs) hf hn (bytesRow b (grownCap w b.size 0 e)) (grownCap w b.size 0 e) (by simp [vs]) (byteVals_rep g _) (fun v hv => by rw [oneCell_size (hlits v hv)]) (by rw [hxs]; exact hge) hcm
    (by simp [bytesRow]; omega) (by
      rw [hxs, flat_lits vs hlits]
      simp only [bytesRow, Array.toList_append, Array.toList_map, Nat.mul_one]
      rw [List.take_append_of_le_length (by simp), List.take_of_length_le (by simp)]) (fz := ((bytesRow b (grownCap w b.size 0 e)).size, (bytesRow b (grownCap w b.size 0 e)).size + 1)) (.inr (Nat.le_refl _))
  unfold runsTo
  have hexec : (execOp a.eval o).run P w = .ok (.value (.slice (some ⟨w.heap.size, 0, none⟩) b.size (grownCap w b.size 0 e))) (w.drew.alloc (.cells (bytesRow b (grownCap w b.size 0 e)) e ((bytesRow b (grownCap w b.size 0 e)).size, (bytesRow b (grownCap w b.size 0 e)).size + 1))) := by
    simp [execOp, ho, e2, hrun]
  rw [hexec]
  rw [hxs] at hrp
  exact ⟨g', hle, hS', hrp⟩

/-- A value of an interface type. -/
theorem holds_makeInterface {t : TypeId} {x : Operand} (ho : o.op = .makeInterface t x) (ht : P.concrete t = true) : OpHolds P o s id [] (.iface t (aeval s x)) [] :=
  holds_pure fun g w a hr => by
    have h1 := hr x (by simp [ho, Op.operands])
    exact ⟨.iface t (a.eval x), by simp [execOp, ho, run_makeInterface, ht], .iface t _ _ h1⟩

/-- v, ok := x.(T), T no interface type. -/
def assertT (P : Program) (asserted : TypeId) (x : AV) : Option AV :=
  if P.concrete asserted then
    match x with
    | .iface t y => if t = asserted then some (.tup [y, .lit (.bool true)]) else (ztree P asserted).map fun z => .tup [z, .lit (.bool false)]
    | .lit .nilIface => (ztree P asserted).map fun z => .tup [z, .lit (.bool false)]
    | _ => none
  else none

theorem concrete_desc {t : TypeId} (h : P.concrete t = true) : ∃ d, P.underlying t = some d ∧ ∀ ms, d ≠ .interface ms := by
  unfold Program.concrete at h
  cases hu : P.underlying t with
  | none => rw [hu] at h; simp at h
  | some d =>
    rw [hu] at h
    refine ⟨d, rfl, fun ms e => ?_⟩
    subst e
    simp at h
end
end Go.Ab
