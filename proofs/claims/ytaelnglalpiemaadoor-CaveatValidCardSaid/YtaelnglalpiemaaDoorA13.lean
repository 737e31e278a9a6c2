/- Slices of what lies in a box, slices without spare places, copy, clear, bytes of a string, values of interface type. -/
import Derived.Test.YtaelnglalpiemaaDoorA12
import Derived.Laws.IdiomStrings
namespace Go.Ab
open Go.RowKit

section
variable {P : Program} {o : Oper} {s : Slots} {id : Nat}

theorem run_bounds3 {a : Act} {g : Ghost} {len cap l h : Nat} {lo hi mx : Option Operand} (hl : bnd s 0 lo = some l) (hh : bnd s len hi = some h) (hm : bnd s cap mx = some h) (hx : mx.isSome = true) (hy : hi.isSome = true) (hr : ∀ x, lo = some x → Rep g (aeval s x) (a.eval x)) (hr' : ∀ x, hi = some x → Rep g (aeval s x) (a.eval x)) (hr'' : ∀ x, mx = some x → Rep g (aeval s x) (a.eval x))
    (h1 : l ≤ h) (h2 : h ≤ cap) (isSlice : Bool) (w : World) : (Instr.sliceBounds isSlice len cap (lo.map a.eval) (hi.map a.eval) (mx.map a.eval)).run P w = .ok (l, h, h) w := by
  rcases run_bnd hm hr'' with ⟨rfl, rfl⟩ | ⟨x2, k2, n2, rfl, he2, h02, rfl⟩
  · simp at hx
  · rcases run_bnd hh hr' with ⟨rfl, rfl⟩ | ⟨x, k, n, rfl, he, h0, hn⟩
    · simp at hy
    · rcases run_bnd hl hr with ⟨rfl, rfl⟩ | ⟨x', k', n', rfl, he', h0', rfl⟩
      · simp [Instr.sliceBounds, he, he2, run_sliceBound w k2 n2 cap _ h02 (by omega), hn, run_sliceBound w k n n2.toNat _ h0 (by omega)]
      · simp [Instr.sliceBounds, he, he', he2, run_sliceBound w k2 n2 cap _ h02 (by omega), hn, run_sliceBound w k n n2.toNat _ h0 (by omega), run_sliceBound w k' n' n2.toNat _ h0' (by omega)]

/-- s[l:h:h]. -/
theorem holds_slice_clip {t e : TypeId} {x m : Operand} {lo hi : Option Operand} {own : Option Nat} {xs : List AV} {l h size : Nat} (ho : o.op = .slice t x lo hi (some m)) (ht : sliceTy P t = some e) (hs : sizeIs P e size = true) (hx : AV.le (aeval s x) (.slice own xs))
    (hl : bnd s 0 lo = some l) (hh : bnd s 0 hi = some h) (hm : bnd s 0 (some m) = some h) (hy : hi.isSome = true) (h1 : l ≤ h) (h2 : h ≤ xs.length) (hsz : xs.all (fun y => y.sz == size) = true) : OpHolds P o s id [] (.clip ((xs.take h).drop l)) [] :=
  holds_pure fun g w a hr => by
    have h3 := hx _ _ (hr x (by simp [ho, Op.operands]))
    have hlo : ∀ x, lo = some x → Rep g (aeval s x) (a.eval x) := fun x hx => hr x (by simp [ho, Op.operands, hx])
    have hhi : ∀ x, hi = some x → Rep g (aeval s x) (a.eval x) := fun x hx => hr x (by simp [ho, Op.operands, hx])
    have hmx : ∀ x, some m = some x → Rep g (aeval s x) (a.eval x) := fun x hx => hr x (by simp [ho, Op.operands]; simp at hx; simp [hx])
    generalize hv : a.eval x = v at h3
    obtain ⟨ie, hie, hsi⟩ := sizeIs_sound hs
    cases h3 with
    | slice _ _ vs A c size' hvl hc hmm hvr hvs hcell hown =>
      have hvs' := sizes_of hvl hvr hsz
      have hhi' : hi = some (hi.get hy) := by simp
      have e0 : bnd s xs.length hi = some h := by rw [hhi'] at hh ⊢; exact hh
      have e1 : bnd s c (some m) = some h := hm
      have hb := run_bounds3 (P := P) hl e0 e1 rfl hy hlo hhi hmx h1 (by omega : h ≤ c) true w
      simp only [Option.map_some] at hb
      have hcell2 : h = 0 ∨ ∃ b o, A = some ⟨b, o, none⟩ ∧ ∀ (j : Nat) (u : Value), (flat (vs.take h))[j]? = some u → g.G b (o + j) = some u := by
        rcases hcell with h0 | ⟨b, o, hA, hG⟩
        · exact .inl (by omega)
        · refine .inr ⟨b, o, hA, fun j u hu => hG j u ?_⟩
          rw [flat_take vs size hvs', List.getElem?_take] at hu
          split at hu
          · exact hu
          · cases hu
      have hlen : (xs.take h).length = h := by rw [List.length_take]; omega
      have := Rep.sub (g := g) (xs := xs.take h) (vs := vs.take h) (A := A) (c := h) (size := size) (l := l) (h := h) (by simp [hvl]) (by omega) (by omega) (fun i x v hx hv => by
          rw [List.getElem?_take] at hx hv
          split at hx
          · rename_i hlt; rw [if_pos hlt] at hv; exact hvr _ x v hx hv
          · cases hx) (fun v hv => hvs' v (List.mem_of_mem_take hv)) (by rw [hlen]; exact hcell2) h1 (by omega)
      rw [List.take_take, Nat.min_self] at this
      refine ⟨_, ?_, .clip _ _ _ this⟩
      simp only [execOp, ho, Sem.run_bind, Instr.sliceAt, run_underlying (sliceTy_sound ht), Result.andThen_ok, hv, Instr.slice, Option.map_some, hb, sizeOf, typeInfo, run_program, hie, Sem.run_pure, hsi]

/-- What an address names: an array. -/
def ptrArr (P : Program) (t : TypeId) : Option (Nat × TypeId × Nat) :=
  match P.underlying t with
  | some (.pointer a) => match P.underlying a with
    | some (.array n e) => match P.info? e with
      | some i => some (n, e, i.size)
      | none => none
    | _ => none
  | _ => none

theorem ptrArr_sound {t e : TypeId} {n size : Nat} (h : ptrArr P t = some (n, e, size)) : ∃ a, P.underlying t = some (.pointer a) ∧ P.underlying a = some (.array n e) ∧ sizeIs P e size = true := by
  unfold ptrArr at h
  split at h
  · rename_i a ha
    split at h
    · rename_i n' e' hb
      split at h
      · rename_i i hi; cases h; exact ⟨a, ha, hb, by simp [sizeIs, hi]⟩
      · cases h
    · cases h
  · cases h

theorem run_slice_arr {t e : TypeId} {n size b off l h : Nat} (ht : ptrArr P t = some (n, e, size)) {lo hi : Option Value} {w : World} (hb : (Instr.sliceBounds false n n lo hi none).run P w = .ok (l, h, n) w) :
    (Instr.slice t (.pointer (some ⟨b, off, none⟩)) lo hi none).run P w = .ok (.slice (some (if n = l then ⟨b, off, none⟩ else ⟨b, off + l * size, none⟩)) (h - l) (n - l)) w := by
  obtain ⟨a, h1, h2, h3⟩ := ptrArr_sound ht
  obtain ⟨ie, hie, hsi⟩ := sizeIs_sound h3
  simp [Instr.slice, run_underlying h1, run_underlying h2, asAddr, hb, sizeOf, typeInfo, hie, hsi, Addr.add_lit]

/-- A slice of an array in a box, to be written through. -/
theorem holds_slice_box {t e : TypeId} {x : Operand} {lo hi : Option Operand} {i off n size l h : Nat} {path : List Nat} (ho : o.op = .slice t x lo hi none) (ht : ptrArr P t = some (n, e, size)) (hx : aeval s x = .ptr i path off)
    (hl : bnd s 0 lo = some l) (hh : bnd s n hi = some h) (h1 : l ≤ h) (h2 : h ≤ n) (h3 : l = 0 ∨ l < n) (h4 : n ≤ maxLen) : OpHolds P o s id [] (.bs i path l (off + l * size) (h - l)) [] :=
  holds_pure fun g w a hr => by
    have hx' := hr x (by simp [ho, Op.operands])
    have hlo : ∀ x, lo = some x → Rep g (aeval s x) (a.eval x) := fun x hx => hr x (by simp [ho, Op.operands, hx])
    have hhi : ∀ x, hi = some x → Rep g (aeval s x) (a.eval x) := fun x hx => hr x (by simp [ho, Op.operands, hx])
    rw [hx] at hx'
    generalize hv : a.eval x = v at hx'
    cases hx' with
    | ptr _ _ _ b hb =>
      have hbd := run_bounds (P := P) hl hh hlo hhi h1 h2 false w
      have hrun := run_slice_arr (P := P) (b := b) (off := off) ht hbd
      refine ⟨.slice (some ⟨b, off + l * size, none⟩) (h - l) (n - l), ?_, .bs i path l _ _ b (n - l) hb (by omega) (by omega)⟩
      have e1 : (if n = l then (⟨b, off, none⟩ : Addr) else ⟨b, off + l * size, none⟩) = ⟨b, off + l * size, none⟩ := by
        rcases h3 with rfl | h3
        · split <;> simp
        · rw [if_neg (by omega)]
      rw [e1] at hrun
      obtain ⟨ar, har, _⟩ := ptrArr_sound ht
      simp only [execOp, ho, Sem.run_bind, Instr.sliceAt, hv, Option.map_none, run_underlying har, Result.andThen_ok, hrun, Sem.run_pure]

theorem arr_part {g : Ghost} {ys : List AV} {vs : List Value} {b off size l h c : Nat} (hvl : vs.length = ys.length) (hvr : ∀ (i : Nat) (x : AV) (v : Value), ys[i]? = some x → vs[i]? = some v → Rep g x v) (hvs : ∀ v ∈ vs, v.cells.size = size)
    (hG : ∀ (j : Nat) (u : Value), (flat vs)[j]? = some u → g.G b (off + j) = some u) (h1 : l ≤ h) (h2 : h ≤ ys.length) (hc : h - l ≤ c) (hm : c ≤ maxLen) (A : Addr) (hA : h - l = 0 ∨ A = ⟨b, off + l * size, none⟩) :
    Rep g (.slice none ((ys.take h).drop l)) (.slice (some A) (h - l) c) := by
  have e : ((ys.take h).drop l).length = h - l := by simp; omega
  have := Rep.slice (g := g) none ((ys.take h).drop l) ((vs.take h).drop l) (some A) c size (by simp [hvl]) (by rw [e]; exact hc) hm (fun i x v hx hv => by
      rw [List.getElem?_drop, List.getElem?_take] at hx hv
      split at hx
      · rename_i hlt; rw [if_pos hlt] at hv; exact hvr _ x v hx hv
      · cases hx) (fun v hv => hvs v (List.mem_of_mem_take (List.mem_of_mem_drop hv))) (by
      rw [e]
      rcases hA with hA | rfl
      · exact .inl hA
      · refine .inr ⟨b, _, rfl, fun j u hu => ?_⟩
        rw [flat_drop _ size (fun v hv => hvs v (List.mem_of_mem_take hv)), flat_take _ size hvs, List.getElem?_drop, List.getElem?_take] at hu
        split at hu
        · rw [Nat.add_assoc]; exact hG _ _ hu
        · cases hu) (fun id hid => by cases hid)
  rw [e] at this
  exact this

/-- A slice of an array that lies in a box which is written no more. -/
theorem holds_slice_fbox {t e : TypeId} {x : Operand} {lo hi : Option Operand} {i off n size l h : Nat} {path : List Nat} {bt : TypeId} {c : AV} {ys : List AV} (frozen : Bool) (ho : o.op = .slice t x lo hi none) (ht : ptrArr P t = some (n, e, size)) (hx : aeval s x = .ptr i path off)
    (hy : c.get path = some (.agg ys)) (hoff : c.offs path = off) (hn : ys.length = n) (hsz : ys.all (fun y => y.sz == size) = true) (hl : bnd s 0 lo = some l) (hh : bnd s n hi = some h) (h1 : l ≤ h) (h2 : h ≤ n) (h4 : n ≤ maxLen) :
    OpHolds P o s id [(i, if frozen then .fbox bt c else .box bt c)] (.slice none ((ys.take h).drop l)) (if frozen then [] else [(i, .fbox bt c)]) := by
  refine ⟨fun p hp => by simp at hp; subst hp; cases frozen <;> simp, fun q hq => .inr ⟨_, List.mem_cons_self .., by cases frozen <;> simp at hq; subst hq; rfl⟩, fun W0 g σ N w a hS hr _ _ hp => ?_⟩
  have hx' := hr x (by simp [ho, Op.operands])
  have hlo : ∀ x, lo = some x → Rep g (aeval s x) (a.eval x) := fun x hx => hr x (by simp [ho, Op.operands, hx])
  have hhi : ∀ x, hi = some x → Rep g (aeval s x) (a.eval x) := fun x hx => hr x (by simp [ho, Op.operands, hx])
  rw [hx] at hx'
  generalize hv : a.eval x = v at hx'
  cases hx' with
  | ptr _ _ _ b hb =>
    have hbd := run_bounds (P := P) hl hh hlo hhi h1 (by omega) false w
    have hrun := run_slice_arr (P := P) (b := b) (off := off) ht hbd
    have hexec : (execOp a.eval o).run P w = .ok (.value (.slice (some (if n = l then ⟨b, off, none⟩ else ⟨b, off + l * size, none⟩)) (h - l) (n - l))) w := by
      obtain ⟨ar, har, _⟩ := ptrArr_sound ht
      simp only [execOp, ho, Sem.run_bind, Instr.sliceAt, hv, Option.map_none, run_underlying har, Result.andThen_ok, hrun, Sem.run_pure]
    unfold runsTo
    rw [hexec]
    have fin : ∀ (g' : Ghost) (v : Value), Rep g' c v → (∀ (o : Nat), g'.G b o = v.cells[o]?) → Rep g' (.slice none ((ys.take h).drop l)) (.slice (some (if n = l then ⟨b, off, none⟩ else ⟨b, off + l * size, none⟩)) (h - l) (n - l)) := by
      intro g' v hrep hG
      obtain ⟨u, hu, hub, huc⟩ := hrep.get hy
      cases hu with
      | agg _ vs hvl hvr =>
        refine arr_part (b := b) (off := off) hvl hvr (sizes_of hvl hvr hsz) (fun j q hq => ?_) h1 (by omega) (by omega) (by omega) _ ?_
        · rw [hG, ← Array.getElem?_toList, ← hoff]
          exact huc j q (by simpa [Value.cells] using hq)
        · by_cases hnl : n = l
          · exact .inl (by omega)
          · exact .inr (by rw [if_neg hnl])
    cases frozen with
    | true =>
      obtain ⟨b', v', hb', _, hrep, _, hG⟩ := hS.fbox i bt c (hp (i, .fbox bt c) (by simp))
      rw [hb] at hb'; cases hb'
      exact ⟨g, g.le_refl, hS, fin g v' hrep hG⟩
    | false =>
      obtain ⟨g', hle, hS', v', hrep, hG⟩ := hS.freeze (hp (i, .box bt c) (by simp)) hb
      exact ⟨g', hle, hS', fin g' v' hrep hG⟩

theorem holds_slice_view {t e : TypeId} {x : Operand} {lo hi : Option Operand} {n size l h : Nat} {ys : List AV} (ho : o.op = .slice t x lo hi none) (ht : ptrArr P t = some (n, e, size)) (hx : aeval s x = .view (.agg ys))
    (hn : ys.length = n) (hsz : ys.all (fun y => y.sz == size) = true) (hl : bnd s 0 lo = some l) (hh : bnd s n hi = some h) (h1 : l ≤ h) (h2 : h ≤ n) (h4 : n ≤ maxLen) :
    OpHolds P o s id [] (.slice none ((ys.take h).drop l)) [] :=
  holds_pure fun g w a hr => by
    have hx' := hr x (by simp [ho, Op.operands])
    have hlo : ∀ x, lo = some x → Rep g (aeval s x) (a.eval x) := fun x hx => hr x (by simp [ho, Op.operands, hx])
    have hhi : ∀ x, hi = some x → Rep g (aeval s x) (a.eval x) := fun x hx => hr x (by simp [ho, Op.operands, hx])
    rw [hx] at hx'
    generalize hv : a.eval x = v at hx'
    cases hx' with
    | view _ u b off hu hG =>
      have hbd := run_bounds (P := P) hl hh hlo hhi h1 h2 false w
      have hrun := run_slice_arr (P := P) (b := b) (off := off) ht hbd
      obtain ⟨ar, har, _⟩ := ptrArr_sound ht
      refine ⟨.slice (some (if n = l then ⟨b, off, none⟩ else ⟨b, off + l * size, none⟩)) (h - l) (n - l), by simp only [execOp, ho, Sem.run_bind, Instr.sliceAt, hv, Option.map_none, run_underlying har, Result.andThen_ok, hrun, Sem.run_pure], ?_⟩
      cases hu with
      | agg _ vs hvl hvr =>
        refine arr_part (b := b) (off := off) hvl hvr (sizes_of hvl hvr hsz) (fun j q hq => hG j q (by simpa [Value.cells] using hq)) h1 (by omega) (by omega) (by omega) _ ?_
        by_cases hnl : n = l
        · exact .inl (by omega)
        · exact .inr (by rw [if_neg hnl])

/-- The address of an element of a slice of a box. -/
theorem holds_indexAddr_bs {t e : TypeId} {size r lo off len : Nat} {path : List Nat} {x i : Operand} {k : IntKind} {n : Int} (ho : o.op = .indexAddr t x i) (ht : sliceTy P t = some e) (hs : sizeIs P e size = true) (hx : aeval s x = .bs r path lo off len) (hi : aeval s i = .lit (.int k n)) (h0 : 0 ≤ n) (hn : n.toNat < len) :
    OpHolds P o s id [] (.ptr r (path ++ [lo + n.toNat]) (off + n.toNat * size)) [] :=
  holds_pure fun g w a hr => by
    have h1 := hr x (by simp [ho, Op.operands])
    have h2 := hr i (by simp [ho, Op.operands])
    rw [hx] at h1
    rw [hi] at h2
    have e2 := rep_lit_inv h2
    obtain ⟨ie, hie, hsi⟩ := sizeIs_sound hs
    generalize hv : a.eval x = v at h1
    cases h1 with
    | bs _ _ _ _ _ b c hb hl hc =>
      obtain ⟨m, rfl⟩ := Int.eq_ofNat_of_zero_le h0
      simp only [Int.toNat_natCast] at hn ⊢
      refine ⟨.pointer (some ⟨b, off + m * size, none⟩), ?_, .ptr _ _ _ b hb⟩
      simp [execOp, ho, hv, e2, Instr.indexAt, asIntOf, run_underlying (sliceTy_sound ht), sizeOf, typeInfo, hie, hsi, Addr.add_lit]
      omega

theorem holds_len_bs {t e : TypeId} {x : Operand} {r lo off len : Nat} {path : List Nat} (ho : o.op = .call { callee := .builtin .len, args := #[x], argTypes := #[t] }) (ht : sliceTy P t = some e) (hx : aeval s x = .bs r path lo off len) : OpHolds P o s id [] (.lit (.int .i64 len)) [] :=
  holds_pure fun g w a hr => by
    have h1 := hr x (by simp [ho, Op.operands, Call.operands])
    rw [hx] at h1
    obtain ⟨cs, he⟩ := execOp_builtin (P := P) (a := a) ho w
    generalize hv : a.eval x = v at h1
    cases h1
    refine ⟨_, ?_, .lit _ rfl⟩
    rw [he]
    simp [builtin, Builtin.len_, hv, run_underlying (sliceTy_sound ht), goInt]
end
end Go.Ab
