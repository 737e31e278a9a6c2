/- Texts A13, A14, A15, A16, B1, B2, B3, joined. -/
import Derived.Test.YtdmjpolnbmoehaaDoorM1
import Derived.Laws.IdiomStrings
import Derived.Laws.Build
import Derived.Laws.StructEq
import Derived.ChangeKeysEq
import Derived.Lib.AppendZerosOnto
import Derived.Scope

namespace Go.Ab
open Go.RowKit
section
variable {P : Program} {o : Oper} {s : Slots} {id : Nat}
theorem run_bounds3 {a : Act} {g : Ghost} {len cap l h : Nat} {lo hi mx : Option Operand} (hl : bnd s 0 lo = some l) (hh : bnd s len hi = some h) (hm : bnd s cap mx = some h) (hx : mx.isSome = true) (hy : hi.isSome = true) (hr : ∀ x, lo = some x → Rep g (aeval s x) (a.eval x)) (hr' : ∀ x, hi = some x → Rep g (aeval s x) (a.eval x)) (hr'' : ∀ x, mx = some x → Rep g (aeval s x) (a.eval x))
  (h1 : l ≤ h) (h2 : h ≤ cap) (isSlice : Bool) (w : World) : (Instr.sliceBounds isSlice len cap (lo.map a.eval) (hi.map a.eval) (mx.map a.eval)).run P w = .ok (l, h, h) w := by
 rcases run_bnd hm hr'' with ⟨rfl, rfl⟩ | ⟨x2, k2, n2, rfl, he2, h02, rfl⟩
 ·simp at hx
 ·rcases run_bnd hh hr' with ⟨rfl, rfl⟩ | ⟨x, k, n, rfl, he, h0, hn⟩
  ·simp at hy
  ·rcases run_bnd hl hr with ⟨rfl, rfl⟩ | ⟨x', k', n', rfl, he', h0', rfl⟩
   ·simp [Instr.sliceBounds, he, he2, run_sliceBound w k2 n2 cap _ h02 (by omega), hn, run_sliceBound w k n n2.toNat _ h0 (by omega)]
   ·simp [Instr.sliceBounds, he, he', he2, run_sliceBound w k2 n2 cap _ h02 (by omega), hn, run_sliceBound w k n n2.toNat _ h0 (by omega), run_sliceBound w k' n' n2.toNat _ h0' (by omega)]
theorem holds_slice_clip {t e : TypeId} {x m : Operand} {lo hi : Option Operand} {own : Option Nat} {xs : List AV} {l h size : Nat} (ho : o.op = .slice t x lo hi (some m)) (ht : sliceTy P t = some e) (hs : sizeIs P e size = true) (hx : AV.le (aeval s x) (.slice own xs))
  (hl : bnd s 0 lo = some l) (hh : bnd s 0 hi = some h) (hm : bnd s 0 (some m) = some h) (hy : hi.isSome = true) (h1 : l ≤ h) (h2 : h ≤ xs.length) (hsz : xs.all (fun y => y.sz == size) = true) : OpHolds P o s id [] (.clip ((xs.take h).drop l)) [] :=
 holds_pure fun g w a hr => by
  have h3 := hx _ _ (hr x (by simp [ho, Op.operands]))
  have hlo : ∀ x, lo = some x → Rep g (aeval s x) (a.eval x) := fun x hx => hr x (by simp [ho, Op.operands, hx])
  have hhi : ∀ x, hi = some x → Rep g (aeval s x) (a.eval x) := fun x hx => hr x (by simp [ho, Op.operands, hx])
  have hmx : ∀ x, some m = some x → Rep g (aeval s x) (a.eval x) := fun x hx => hr x (by simp [ho, Op.operands]; simp at hx; simp [hx])
  generalize hv : a.eval x = v at h3
  obtain ⟨ie, hie, hsi⟩ := sizeIs_sound hs
  cases h3 with
  | slice _ _ vs A c size' hvl hc hmm hvr hvs hcell hown =>
   have hvs' := sizes_of hvl hvr hsz
   have hhi' : hi = some (hi.get hy) := by simp
   have e0 : bnd s xs.length hi = some h := by rw [hhi'] at hh ⊢; exact hh
   have e1 : bnd s c (some m) = some h := hm
   have hb := run_bounds3 (P := P) hl e0 e1 rfl hy hlo hhi hmx h1 (by omega : h ≤ c) true w
   simp only [Option.map_some] at hb
   have hcell2 : h = 0 ∨ ∃ b o, A = some ⟨b, o, none⟩ ∧ ∀ (j : Nat) (u : Value), (flat (vs.take h))[j]? = some u → g.G b (o + j) = some u := by
    rcases hcell with h0 | ⟨b, o, hA, hG⟩
    ·exact .inl (by omega)
    ·refine .inr ⟨b, o, hA, fun j u hu => hG j u ?_⟩
     rw [flat_take vs size hvs', List.getElem?_take] at hu
     split at hu
     ·exact hu
     ·cases hu
   have hlen : (xs.take h).length = h := by rw [List.length_take]; omega
   have := Rep.sub (g := g) (xs := xs.take h) (vs := vs.take h) (A := A) (c := h) (size := size) (l := l) (h := h) (by simp [hvl]) (by omega) (by omega) (fun i x v hx hv => by
     rw [List.getElem?_take] at hx hv
     split at hx
     ·rename_i hlt; rw [if_pos hlt] at hv; exact hvr _ x v hx hv
     ·cases hx) (fun v hv => hvs' v (List.mem_of_mem_take hv)) (by rw [hlen]; exact hcell2) h1 (by omega)
   rw [List.take_take, Nat.min_self] at this
   refine ⟨_, ?_, .clip _ _ _ this⟩
   simp only [execOp, ho, Sem.run_bind, Instr.sliceAt, run_underlying (sliceTy_sound ht), Result.andThen_ok, hv, Instr.slice, Option.map_some, hb, sizeOf, typeInfo, run_program, hie, Sem.run_pure, hsi]
def ptrArr (P : Program) (t : TypeId) : Option (Nat × TypeId × Nat) :=
 match P.underlying t with
 | some (.pointer a) => match P.underlying a with
  | some (.array n e) => match P.info? e with
   | some i => some (n, e, i.size)
   | none => none
  | _ => none
 | some (.array n e) => match P.info? e with
  | some i => some (n, e, i.size)
  | none => none
 | _ => none
theorem ptrArr_sound {t e : TypeId} {n size : Nat} (h : ptrArr P t = some (n, e, size)) : ((∃ a, P.underlying t = some (.pointer a) ∧ P.underlying a = some (.array n e)) ∨ P.underlying t = some (.array n e)) ∧ sizeIs P e size = true := by
 unfold ptrArr at h
 split at h
 ·rename_i a ha
  split at h
  ·rename_i n' e' hb
   split at h
   ·rename_i i hi; cases h; exact ⟨.inl ⟨a, ha, hb⟩, by simp [sizeIs, hi]⟩
   ·cases h
  ·cases h
 ·rename_i n' e' hb
  split at h
  ·rename_i i hi; cases h; exact ⟨.inr hb, by simp [sizeIs, hi]⟩
  ·cases h
 ·cases h
theorem run_slice_arr {t e : TypeId} {n size b off l h : Nat} (ht : ptrArr P t = some (n, e, size)) {lo hi : Option Value} {w : World} (hb : (Instr.sliceBounds false n n lo hi none).run P w = .ok (l, h, n) w) :
  (Instr.sliceAt t (.pointer (some ⟨b, off, none⟩)) lo hi none).run P w = .ok (.slice (some (if n = l then ⟨b, off, none⟩ else ⟨b, off + l * size, none⟩)) (h - l) (n - l)) w := by
 obtain ⟨h1, h3⟩ := ptrArr_sound ht
 obtain ⟨ie, hie, hsi⟩ := sizeIs_sound h3
 rcases h1 with ⟨a, h1, h2⟩ | h1
 ·simp [Instr.sliceAt, Instr.slice, run_underlying h1, run_underlying h2, asAddr, hb, sizeOf, typeInfo, hie, hsi, Addr.add_lit]
 ·simp [Instr.sliceAt, run_underlying h1, Instr.sureAddr, hb, sizeOf, typeInfo, hie, hsi, Addr.add_lit]
theorem holds_slice_box {t e : TypeId} {x : Operand} {lo hi : Option Operand} {i off n size l h : Nat} {path : List Nat} (ho : o.op = .slice t x lo hi none) (ht : ptrArr P t = some (n, e, size)) (hx : aeval s x = .ptr i path off)
  (hl : bnd s 0 lo = some l) (hh : bnd s n hi = some h) (h1 : l ≤ h) (h2 : h ≤ n) (h3 : l = 0 ∨ l < n) (h4 : n ≤ maxLen) : OpHolds P o s id [] (.bs i path l (off + l * size) (h - l)) [] :=
 holds_pure fun g w a hr => by
  have hx' := hr x (by simp [ho, Op.operands])
  have hlo : ∀ x, lo = some x → Rep g (aeval s x) (a.eval x) := fun x hx => hr x (by simp [ho, Op.operands, hx])
  have hhi : ∀ x, hi = some x → Rep g (aeval s x) (a.eval x) := fun x hx => hr x (by simp [ho, Op.operands, hx])
  rw [hx] at hx'
  generalize hv : a.eval x = v at hx'
  cases hx' with
  | ptr _ _ _ b hb =>
   have hbd := run_bounds (P := P) hl hh hlo hhi h1 h2 false w
   have hrun := run_slice_arr (P := P) (b := b) (off := off) ht hbd
   refine ⟨.slice (some ⟨b, off + l * size, none⟩) (h - l) (n - l), ?_, .bs i path l _ _ b (n - l) hb (by omega) (by omega)⟩
   have e1 : (if n = l then (⟨b, off, none⟩ : Addr) else ⟨b, off + l * size, none⟩) = ⟨b, off + l * size, none⟩ := by
    rcases h3 with rfl | h3
    ·split <;> simp
    ·rw [if_neg (by omega)]
   rw [e1] at hrun
   simp only [execOp, ho, Sem.run_bind, hv, Option.map_none, hrun, Result.andThen_ok, Sem.run_pure]
theorem arr_part {g : Ghost} {ys : List AV} {vs : List Value} {b off size l h c : Nat} (hvl : vs.length = ys.length) (hvr : ∀ (i : Nat) (x : AV) (v : Value), ys[i]? = some x → vs[i]? = some v → Rep g x v) (hvs : ∀ v ∈ vs, v.cells.size = size)
  (hG : ∀ (j : Nat) (u : Value), (flat vs)[j]? = some u → g.G b (off + j) = some u) (h1 : l ≤ h) (h2 : h ≤ ys.length) (hc : h - l ≤ c) (hm : c ≤ maxLen) (A : Addr) (hA : h - l = 0 ∨ A = ⟨b, off + l * size, none⟩) :
  Rep g (.slice none ((ys.take h).drop l)) (.slice (some A) (h - l) c) := by
 have e : ((ys.take h).drop l).length = h - l := by simp; omega
 have := Rep.slice (g := g) none ((ys.take h).drop l) ((vs.take h).drop l) (some A) c size (by simp [hvl]) (by rw [e]; exact hc) hm (fun i x v hx hv => by
   rw [List.getElem?_drop, List.getElem?_take] at hx hv
   split at hx
   ·rename_i hlt; rw [if_pos hlt] at hv; exact hvr _ x v hx hv
   ·cases hx) (fun v hv => hvs v (List.mem_of_mem_take (List.mem_of_mem_drop hv))) (by
   rw [e]
   rcases hA with hA | rfl
   ·exact .inl hA
   ·refine .inr ⟨b, _, rfl, fun j u hu => ?_⟩
    rw [flat_drop _ size (fun v hv => hvs v (List.mem_of_mem_take hv)), flat_take _ size hvs, List.getElem?_drop, List.getElem?_take] at hu
    split at hu
    ·rw [Nat.add_assoc]; exact hG _ _ hu
    ·cases hu) (fun id hid => by cases hid)
 rw [e] at this
 exact this
theorem holds_slice_fbox {t e : TypeId} {x : Operand} {lo hi : Option Operand} {i off n size l h : Nat} {path : List Nat} {bt : TypeId} {c : AV} {ys : List AV} (frozen : Bool) (ho : o.op = .slice t x lo hi none) (ht : ptrArr P t = some (n, e, size)) (hx : aeval s x = .ptr i path off)
  (hy : c.get path = some (.agg ys)) (hoff : c.offs path = off) (hn : ys.length = n) (hsz : ys.all (fun y => y.sz == size) = true) (hl : bnd s 0 lo = some l) (hh : bnd s n hi = some h) (h1 : l ≤ h) (h2 : h ≤ n) (h4 : n ≤ maxLen) :
  OpHolds P o s id [(i, if frozen then .fbox bt c else .box bt c)] (.slice none ((ys.take h).drop l)) (if frozen then [] else [(i, .fbox bt c)]) := by
 refine ⟨fun p hp => by simp at hp; subst hp; cases frozen <;> simp, fun q hq => .inr ⟨_, List.mem_cons_self .., by cases frozen <;> simp at hq; subst hq; rfl⟩, fun W0 g σ N w a hS hr _ _ hp => ?_⟩
 have hx' := hr x (by simp [ho, Op.operands])
 have hlo : ∀ x, lo = some x → Rep g (aeval s x) (a.eval x) := fun x hx => hr x (by simp [ho, Op.operands, hx])
 have hhi : ∀ x, hi = some x → Rep g (aeval s x) (a.eval x) := fun x hx => hr x (by simp [ho, Op.operands, hx])
 rw [hx] at hx'
 generalize hv : a.eval x = v at hx'
 cases hx' with
 | ptr _ _ _ b hb =>
  have hbd := run_bounds (P := P) hl hh hlo hhi h1 (by omega) false w
  have hrun := run_slice_arr (P := P) (b := b) (off := off) ht hbd
  have hexec : (execOp a.eval o).run P w = .ok (.value (.slice (some (if n = l then ⟨b, off, none⟩ else ⟨b, off + l * size, none⟩)) (h - l) (n - l))) w := by
   simp only [execOp, ho, Sem.run_bind, hv, Option.map_none, hrun, Result.andThen_ok, Sem.run_pure]
  unfold runsTo
  rw [hexec]
  have fin : ∀ (g' : Ghost) (v : Value), Rep g' c v → (∀ (o : Nat), g'.G b o = v.cells[o]?) → Rep g' (.slice none ((ys.take h).drop l)) (.slice (some (if n = l then ⟨b, off, none⟩ else ⟨b, off + l * size, none⟩)) (h - l) (n - l)) := by
   intro g' v hrep hG
   obtain ⟨u, hu, hub, huc⟩ := hrep.get hy
   cases hu with
   | agg _ vs hvl hvr =>
    refine arr_part (b := b) (off := off) hvl hvr (sizes_of hvl hvr hsz) (fun j q hq => ?_) h1 (by omega) (by omega) (by omega) _ ?_
    ·rw [hG, ← Array.getElem?_toList, ← hoff]
     exact huc j q (by simpa [Value.cells] using hq)
    ·by_cases hnl : n = l
     ·exact .inl (by omega)
     ·exact .inr (by rw [if_neg hnl])
  cases frozen with
  | true =>
   obtain ⟨b', v', hb', _, hrep, _, hG⟩ := hS.fbox i bt c (hp (i, .fbox bt c) (by simp))
   rw [hb] at hb'; cases hb'
   exact ⟨g, g.le_refl, hS, fin g v' hrep hG⟩
  | false =>
   obtain ⟨g', hle, hS', v', hrep, hG⟩ := hS.freeze (hp (i, .box bt c) (by simp)) hb
   exact ⟨g', hle, hS', fin g' v' hrep hG⟩
theorem holds_slice_view {t e : TypeId} {x : Operand} {lo hi : Option Operand} {n size l h : Nat} {ys : List AV} (ho : o.op = .slice t x lo hi none) (ht : ptrArr P t = some (n, e, size)) (hx : aeval s x = .view (.agg ys))
  (hn : ys.length = n) (hsz : ys.all (fun y => y.sz == size) = true) (hl : bnd s 0 lo = some l) (hh : bnd s n hi = some h) (h1 : l ≤ h) (h2 : h ≤ n) (h4 : n ≤ maxLen) :
  OpHolds P o s id [] (.slice none ((ys.take h).drop l)) [] :=
 holds_pure fun g w a hr => by
  have hx' := hr x (by simp [ho, Op.operands])
  have hlo : ∀ x, lo = some x → Rep g (aeval s x) (a.eval x) := fun x hx => hr x (by simp [ho, Op.operands, hx])
  have hhi : ∀ x, hi = some x → Rep g (aeval s x) (a.eval x) := fun x hx => hr x (by simp [ho, Op.operands, hx])
  rw [hx] at hx'
  generalize hv : a.eval x = v at hx'
  cases hx' with
  | view _ u b off hu hG =>
   have hbd := run_bounds (P := P) hl hh hlo hhi h1 h2 false w
   have hrun := run_slice_arr (P := P) (b := b) (off := off) ht hbd
   refine ⟨.slice (some (if n = l then ⟨b, off, none⟩ else ⟨b, off + l * size, none⟩)) (h - l) (n - l), by simp only [execOp, ho, Sem.run_bind, hv, Option.map_none, hrun, Result.andThen_ok, Sem.run_pure], ?_⟩
   cases hu with
   | agg _ vs hvl hvr =>
    refine arr_part (b := b) (off := off) hvl hvr (sizes_of hvl hvr hsz) (fun j q hq => hG j q (by simpa [Value.cells] using hq)) h1 (by omega) (by omega) (by omega) _ ?_
    by_cases hnl : n = l
    ·exact .inl (by omega)
    ·exact .inr (by rw [if_neg hnl])
theorem holds_indexAddr_bs {t e : TypeId} {size r lo off len : Nat} {path : List Nat} {x i : Operand} {k : IntKind} {n : Int} (ho : o.op = .indexAddr t x i) (ht : sliceTy P t = some e) (hs : sizeIs P e size = true) (hx : aeval s x = .bs r path lo off len) (hi : aeval s i = .lit (.int k n)) (h0 : 0 ≤ n) (hn : n.toNat < len) :
  OpHolds P o s id [] (.ptr r (path ++ [lo + n.toNat]) (off + n.toNat * size)) [] :=
 holds_pure fun g w a hr => by
  have h1 := hr x (by simp [ho, Op.operands])
  have h2 := hr i (by simp [ho, Op.operands])
  rw [hx] at h1
  rw [hi] at h2
  have e2 := rep_lit_inv h2
  obtain ⟨ie, hie, hsi⟩ := sizeIs_sound hs
  generalize hv : a.eval x = v at h1
  cases h1 with
  | bs _ _ _ _ _ b c hb hl hc =>
   obtain ⟨m, rfl⟩ := Int.eq_ofNat_of_zero_le h0
   simp only [Int.toNat_natCast] at hn ⊢
   refine ⟨.pointer (some ⟨b, off + m * size, none⟩), ?_, .ptr _ _ _ b hb⟩
   simp [execOp, ho, hv, e2, Instr.indexAt, asIntOf, run_underlying (sliceTy_sound ht), sizeOf, typeInfo, hie, hsi, Addr.add_lit]
   omega
theorem holds_len_bs {t e : TypeId} {x : Operand} {r lo off len : Nat} {path : List Nat} (ho : o.op = .call { callee := .builtin .len, args := #[x], argTypes := #[t] }) (ht : sliceTy P t = some e) (hx : aeval s x = .bs r path lo off len) : OpHolds P o s id [] (.lit (.int .i64 len)) [] :=
 holds_pure fun g w a hr => by
  have h1 := hr x (by simp [ho, Op.operands, Call.operands])
  rw [hx] at h1
  obtain ⟨cs, he⟩ := execOp_builtin (P := P) (a := a) ho w
  generalize hv : a.eval x = v at h1
  cases h1
  refine ⟨_, ?_, .lit _ rfl⟩
  rw [he]
  simp [builtin, Builtin.len_, hv, run_underlying (sliceTy_sound ht), goInt]
end

section
variable {P : Program} {o : Oper} {s : Slots} {id : Nat}
def copySrc : AV → Option (List AV)
 | .lit (.string b) => some (b.data.toList.map byteAV)
 | x => x.elems
theorem byteVals_rep (g : Ghost) (l : List UInt8) : ∀ (i : Nat) (x : AV) (v : Value), (l.map byteAV)[i]? = some x → (l.map fun b => Value.int .u8 (b.toNat : Int))[i]? = some v → Rep g x v := by
 intro i x v hx hv
 rw [List.getElem?_map] at hx hv
 cases hl : l[i]? with
 | none => rw [hl] at hx; cases hx
 | some b => rw [hl] at hx hv; cases hx; cases hv; exact .lit _ rfl
theorem copySrc_vals {W0 : World} {g : Ghost} {σ : Nat → Ent} {n : Nat} {w : World} (hS : Sim W0 g σ n w) {size : Nat} {Y : AV} {y : Value} {ys : List AV} (hY : copySrc Y = some ys) (hry : Rep g Y y) (hsy : ys.all (fun x => x.sz == size) = true) :
  (Builtin.lenOf y).run P w = .ok ys.length w ∧ ∃ us : List Value, us.length = ys.length ∧ (∀ (i : Nat) (x : AV) (v : Value), ys[i]? = some x → us[i]? = some v → Rep g x v) ∧ (∀ v ∈ us, v.cells.size = size) ∧
   ∀ m, m ≤ ys.length → (Builtin.firstCells size m y).run P w = .ok (flat (us.take m)).toArray w := by
 by_cases hstr : ∃ b, Y = .lit (.string b)
 ·obtain ⟨b, rfl⟩ := hstr
  simp only [copySrc, Option.some.injEq] at hY
  subst hY
  have e := rep_lit_inv hry
  subst e
  have hus : ∀ v ∈ (b.data.toList.map fun b => Value.int .u8 (b.toNat : Int)), v.cells.size = 1 := fun v hv => by obtain ⟨b, _, rfl⟩ := List.mem_map.1 hv; rfl
  refine ⟨by simp [Builtin.lenOf], b.data.toList.map fun b => Value.int .u8 (b.toNat : Int), by simp, byteVals_rep g _, fun v hv => ?_, fun m hm => ?_⟩
  ·obtain ⟨i, hi⟩ := List.getElem?_of_mem hv
   have hl : i < b.data.toList.length := by simpa using (List.getElem?_eq_some_iff.1 hi).1
   have := List.all_eq_true.1 hsy (byteAV (b.data.toList[i])) (List.mem_map.2 ⟨_, List.getElem_mem hl, rfl⟩)
   rw [hus v hv]
   simpa [byteAV_sz] using this
  ·rw [flat_lits _ fun v hv => by obtain ⟨b, _, rfl⟩ := List.mem_map.1 (List.mem_of_mem_take hv); rfl]
   have hm' : m ≤ b.size := by simpa using hm
   have : (b.extract 0 m).data.toList = b.data.toList.take m := by
    simp [ByteArray.extract, ByteArray.copySlice]
   simp only [Builtin.firstCells, Sem.run_pure]
   congr 1
   apply Array.ext'
   simp
 ·have hY' : Y.elems = some ys := by
   unfold copySrc at hY
   split at hY
   ·rename_i b; exact absurd ⟨b, rfl⟩ hstr
   ·exact hY
  obtain ⟨A, m0, c, us, rfl, rfl, hul, hur, hus, huc⟩ := elems_vals hY' hry hsy
  refine ⟨by simp [Builtin.lenOf], us, hul, hur, hus, fun m hm => ?_⟩
  have hfl : (flat (us.take m)).length = m * size := by rw [flat_length _ size (fun v hv => hus v (List.mem_of_mem_take hv)), List.length_take]; congr 1; omega
  rcases huc with h0 | ⟨b, off, rfl, huc⟩
  ·have hm0 : m = 0 := by omega
   subst hm0
   cases A with
   | none => simp [Builtin.firstCells, flat]
   | some ad => simp [Builtin.firstCells, flat, loadCells, loadCellsFrom]
  ·have := run_firstCells_some (P := P) w size m ⟨b, off, none⟩ ys.length c (flat (us.take m)) hfl fun j v hv => by
    rw [Addr.add_lit]
    refine hS.imm _ _ _ (huc j v ?_)
    rw [flat_take us size hus, List.getElem?_take] at hv
    split at hv
    ·exact hv
    ·cases hv
   exact this
theorem spliced {g : Ghost} {xs ys : List AV} {vs us : List Value} {size lo m : Nat} (hvl : vs.length = xs.length) (hul : us.length = ys.length) (hvr : ∀ (i : Nat) (x : AV) (v : Value), xs[i]? = some x → vs[i]? = some v → Rep g x v)
  (hur : ∀ (i : Nat) (x : AV) (v : Value), ys[i]? = some x → us[i]? = some v → Rep g x v) (hvs : ∀ v ∈ vs, v.cells.size = size) (hus : ∀ v ∈ us, v.cells.size = size) (h1 : lo + m ≤ xs.length) (h2 : m ≤ ys.length) :
  (vs.take lo ++ us.take m ++ vs.drop (lo + m)).length = (xs.take lo ++ ys.take m ++ xs.drop (lo + m)).length ∧ (xs.take lo ++ ys.take m ++ xs.drop (lo + m)).length = xs.length ∧
  (∀ (i : Nat) (x : AV) (v : Value), (xs.take lo ++ ys.take m ++ xs.drop (lo + m))[i]? = some x → (vs.take lo ++ us.take m ++ vs.drop (lo + m))[i]? = some v → Rep g x v) ∧ (∀ v ∈ vs.take lo ++ us.take m ++ vs.drop (lo + m), v.cells.size = size) ∧
  flat (vs.take lo ++ us.take m ++ vs.drop (lo + m)) = (flat vs).take (lo * size) ++ flat (us.take m) ++ (flat vs).drop (lo * size + (flat (us.take m)).length) := by
 have a1 : (xs.take lo).length = lo := by rw [List.length_take]; omega
 have a2 : (vs.take lo).length = lo := by rw [List.length_take]; omega
 have a3 : (ys.take m).length = m := by rw [List.length_take]; omega
 have a4 : (us.take m).length = m := by rw [List.length_take]; omega
 refine ⟨by simp; omega, by simp; omega, fun i x v hx hv => ?_, fun v hv => ?_, ?_⟩
 ·by_cases hi : i < lo
  ·rw [List.getElem?_append_left (by simp; omega), List.getElem?_append_left (by omega), List.getElem?_take, if_pos hi] at hx
   rw [List.getElem?_append_left (by simp; omega), List.getElem?_append_left (by omega), List.getElem?_take, if_pos hi] at hv
   exact hvr _ x v hx hv
  ·by_cases hj : i < lo + m
   ·rw [List.getElem?_append_left (by simp; omega), List.getElem?_append_right (by omega), a1, List.getElem?_take, if_pos (by omega)] at hx
    rw [List.getElem?_append_left (by simp; omega), List.getElem?_append_right (by omega), a2, List.getElem?_take, if_pos (by omega)] at hv
    exact hur _ x v hx hv
   ·have e1 : (xs.take lo ++ ys.take m).length = lo + m := by simp [a1, a3]
    have e2 : (vs.take lo ++ us.take m).length = lo + m := by simp [a2, a4]
    rw [List.getElem?_append_right (by omega), e1, List.getElem?_drop] at hx
    rw [List.getElem?_append_right (by omega), e2, List.getElem?_drop] at hv
    exact hvr _ x v hx hv
 ·rcases List.mem_append.1 hv with hv | hv
  ·rcases List.mem_append.1 hv with hv | hv
   ·exact hvs v (List.mem_of_mem_take hv)
   ·exact hus v (List.mem_of_mem_take hv)
  ·exact hvs v (List.mem_of_mem_drop hv)
 ·have hf : (flat (us.take m)).length = m * size := by rw [flat_length _ size (fun v hv => hus v (List.mem_of_mem_take hv)), a4]
  rw [flat_append, flat_append, flat_take _ size hvs, flat_drop _ size hvs, hf, Nat.add_mul]
theorem run_copy {w w' : World} {dT sT ty elem : TypeId} {size n m len c : Nat} {A : Option Addr} {y : Value} {news : List Value} (hu : P.underlying dT = some (.slice elem)) (hs : sizeIs P elem size = true)
  (h1 : (Builtin.lenOf y).run P w = .ok n w) (hm : m = Nat.min n len) (h2 : (Builtin.firstCells size m y).run P w = .ok news.toArray w) (h3 : (match A with | some a => storeCells a news 0 | none => pure ()).run P w = .ok () w') :
  (Builtin.copy_ #[dT, sT] ty #[.slice A len c, y]).run P w = .ok (.int .i64 m) w' := by
 obtain ⟨ie, hie, hsi⟩ := sizeIs_sound hs
 subst hm
 cases A with
 | none =>
  simp at h3
  subst h3
  simp [Builtin.copy_, run_underlying hu, h1, sizeOf, typeInfo, hie, hsi, h2, goInt]
 | some a =>
  simp at h3
  simp [Builtin.copy_, run_underlying hu, h1, sizeOf, typeInfo, hie, hsi, h2, h3, goInt]
theorem holds_copy_ms {t ts e : TypeId} {size r ver lo len m : Nat} {x y : Operand} {Y : AV} {xs ys : List AV} (ho : o.op = .call { callee := .builtin .copy, args := #[x, y], argTypes := #[t, ts] }) (ht : sliceTy P t = some e) (hs : sizeIs P e size = true)
  (hx : aeval s x = .ms r ver size lo len) (hlen : lo + len ≤ xs.length) (hy : aeval s y = Y) (hY : copySrc Y = some ys) (hsy : ys.all (fun x => x.sz == size && x.cell) = true) (hm : m = Nat.min ys.length len) :
  OpHolds P o s id [(r, .mrow ver e size xs)] (.lit (.int .i64 m)) [(r, .mrow ver e size (xs.take lo ++ ys.take m ++ xs.drop (lo + m)))] := by
 refine ⟨fun p hp => by simp at hp; subst hp; simp, fun q hq => .inr ⟨(r, .mrow ver e size xs), by simp, by simp at hq; subst hq; rfl⟩, fun W0 g σ n w a hS hr _ _ hp => ?_⟩
 have h1 := hr x (by simp [ho, Op.operands, Call.operands])
 have h2 := hr y (by simp [ho, Op.operands, Call.operands])
 rw [hx] at h1
 rw [hy] at h2
 have hp' : σ r = .mrow ver e size xs := hp (r, .mrow ver e size xs) (by simp)
 obtain ⟨cs, he⟩ := execOp_builtin (P := P) (a := a) ho w
 obtain ⟨u, vs, hmr, hsl, hvl, hvr, hvs, hown⟩ := hS.mrowAt hp'
 have hsy1 : ys.all (fun x => x.sz == size) = true := by
  rw [List.all_eq_true] at hsy ⊢
  intro x hx
  have := hsy x hx
  simp only [Bool.and_eq_true] at this
  exact this.1
 generalize hv : a.eval x = v at h1
 generalize hw : a.eval y = yv at h2
 obtain ⟨k1, us, k2, k3, k4, k5⟩ := copySrc_vals (P := P) hS hY h2 hsy1
 have hmy : m ≤ ys.length := by rw [hm]; exact Nat.min_le_left _ _
 have hml : m ≤ len := by rw [hm]; exact Nat.min_le_right _ _
 obtain ⟨s1, s2, s3, s4, s5⟩ := spliced (lo := lo) (m := m) hvl k2 hvr k3 hvs k4 (by omega) hmy
 have hone : ∀ q ∈ flat (us.take m), q.oneCell' = true := by
  intro q hq
  obtain ⟨v, hv, hq⟩ := mem_flat.1 hq
  obtain ⟨j, hj⟩ := List.getElem?_of_mem (List.mem_of_mem_take hv)
  have hlt : j < ys.length := by rw [← k2]; exact (List.getElem?_eq_some_iff.1 hj).1
  have hc := List.all_eq_true.1 hsy ys[j] (List.getElem_mem hlt)
  simp only [Bool.and_eq_true] at hc
  exact (k3 j _ v (List.getElem?_eq_getElem hlt) hj).cell_ok hc.2 q hq
 have hfl : (flat (us.take m)).length = m * size := by rw [flat_length _ size (fun v hv => k4 v (List.mem_of_mem_take hv)), List.length_take]; congr 1; omega
 cases h1 with
 | ms _ _ _ _ _ ver' u' A c hm' hv' hl hc h =>
  rw [hmr] at hm'; cases hm'
  obtain ⟨A0, n0, c0, rfl, j1, j2, j3⟩ := h rfl
  simp only [slen] at hsl
  subst hsl
  have store : ∃ w', (match A with | some a => storeCells a (flat (us.take m)) 0 | none => pure ()).run P w = .ok () w' ∧ ∃ g', g.le g' ∧ Sim W0 g' (upd σ r (.mrow ver e size (xs.take lo ++ ys.take m ++ xs.drop (lo + m)))) n w' := by
   by_cases hm0 : m = 0
   ·refine ⟨w, ?_, g, g.le_refl, ?_⟩
    ·subst hm0
     cases A <;> simp [flat, storeCells]
    ·have e1 : xs.take lo ++ ys.take m ++ xs.drop (lo + m) = xs := by rw [hm0]; simp
     rw [e1]
     have e2 : upd σ r (.mrow ver e size xs) = σ := by
      funext i
      by_cases hi : i = r
      ·subst hi; rw [upd_same, hp']
      ·rw [upd_ne _ _ _ _ hi]
     rw [e2]; exact hS
   ·obtain ⟨b, rfl, rfl⟩ := j3 (by omega)
    obtain ⟨w', hst, l1, l2, l3, l4, l5, l6⟩ := row_written (P := P) (off := lo * size) (news := flat (us.take m)) hown (by
     rw [hfl, hown.1, ← Nat.add_mul]; exact Nat.mul_le_mul_right _ (by omega)) hone
    rw [← s5] at l1
    obtain ⟨g', hle, hS', _, _⟩ := hS.turnM (ver' := ver) (vs' := vs.take lo ++ us.take m ++ vs.drop (lo + m)) hp' hmr (.inl ⟨rfl, rfl⟩) (by rw [s2]; exact l1) (by simp only [slen]; rw [s2]) s1 s3 s4 l2 l3 l4 l5 (.inl rfl) (fun j hj _ => l6 j (fun e => hj (by rw [e]; rfl)))
    exact ⟨w', hst, g', hle, hS'⟩
  obtain ⟨w', hst, g', hle, hS'⟩ := store
  have hrun := run_copy (P := P) (ty := o.type) (sT := ts) (c := c) (sliceTy_sound ht) hs k1 hm (k5 m hmy) hst
  unfold runsTo
  have hexec : (execOp a.eval o).run P w = .ok (.value (.int .i64 m)) w' := by
   rw [he]
   simp [builtin, hv, hw, hrun]
  rw [hexec]
  exact ⟨g', hle, hS', .lit _ rfl⟩
theorem list_splice2 {α : Type} (L N T : List α) (q a : Nat) (hT : T = (L.drop q).take (T.length)) (hq : q + T.length ≤ L.length) (hab : a + N.length ≤ T.length) :
  L.take q ++ (T.take a ++ N ++ T.drop (a + N.length)) ++ L.drop (q + T.length) = L.take (q + a) ++ N ++ L.drop (q + a + N.length) := by
 apply List.ext_getElem?
 intro j
 have lq : (L.take q).length = q := by rw [List.length_take]; omega
 have la : (T.take a).length = a := by rw [List.length_take]; omega
 have lqa : (L.take (q + a)).length = q + a := by rw [List.length_take]; omega
 have lm : (T.take a ++ N ++ T.drop (a + N.length)).length = T.length := by simp; omega
 have hTj : ∀ i, i < T.length → T[i]? = L[q + i]? := fun i hi => by
  rw [hT, List.getElem?_take, if_pos hi, List.getElem?_drop]
 by_cases h1 : j < q
 ·rw [List.getElem?_append_left (by simp; omega), List.getElem?_append_left (by omega), List.getElem?_append_left (by simp; omega), List.getElem?_append_left (by omega), List.getElem?_take, List.getElem?_take, if_pos h1, if_pos (by omega)]
 ·by_cases h2 : j < q + a
  ·rw [List.getElem?_append_left (by simp only [List.length_append, lq] at *; omega), List.getElem?_append_right (by omega), List.getElem?_append_left (by simp; omega), List.getElem?_append_left (by omega), List.getElem?_take, if_pos (by omega), lq, hTj _ (by omega),
    List.getElem?_append_left (by simp; omega), List.getElem?_append_left (by omega), List.getElem?_take, if_pos h2]
   congr 1; omega
  ·by_cases h3 : j < q + a + N.length
   ·rw [List.getElem?_append_left (by simp only [List.length_append, lq] at *; omega), List.getElem?_append_right (by omega), lq, List.getElem?_append_left (by simp; omega), List.getElem?_append_right (by omega), la,
     List.getElem?_append_left (by simp; omega), List.getElem?_append_right (by omega), lqa]
    congr 1; omega
   ·have e1 : (T.take a ++ N).length = a + N.length := by simp; omega
    have e2 : (L.take (q + a) ++ N).length = q + a + N.length := by simp; omega
    rw [List.getElem?_append_right (l₁ := L.take (q + a) ++ N) (by omega), e2, List.getElem?_drop]
    by_cases h4 : j < q + T.length
    ·rw [List.getElem?_append_left (by simp only [List.length_append, lq] at *; omega), List.getElem?_append_right (by omega), lq, List.getElem?_append_right (by omega), e1, List.getElem?_drop, hTj _ (by omega)]
     congr 1; omega
    ·have e3 : (L.take q ++ (T.take a ++ N ++ T.drop (a + N.length))).length = q + T.length := by simp only [List.length_append] at lm ⊢; omega
     rw [List.getElem?_append_right (by omega), e3, List.getElem?_drop]
     congr 1; omega
theorem holds_copy_bs {t ts e : TypeId} {size r lo off len m : Nat} {path : List Nat} {x y : Operand} {Y : AV} {bt : TypeId} {c : AV} {xs ys : List AV} (ho : o.op = .call { callee := .builtin .copy, args := #[x, y], argTypes := #[t, ts] }) (ht : sliceTy P t = some e) (hs : sizeIs P e size = true)
  (hx : aeval s x = .bs r path lo off len) (hc0 : c.get path = some (.agg xs)) (hoff : c.offs path + lo * size = off) (hsx : xs.all (fun x => x.sz == size) = true) (hlen : lo + len ≤ xs.length) (hy : aeval s y = Y) (hY : copySrc Y = some ys) (hsy : ys.all (fun x => x.sz == size && x.cell) = true) (hm : m = Nat.min ys.length len) :
  OpHolds P o s id [(r, .box bt c)] (.lit (.int .i64 m)) [(r, .box bt (c.put path (.agg (xs.take lo ++ ys.take m ++ xs.drop (lo + m)))))] := by
 refine ⟨fun p hp => by simp at hp; subst hp; simp, fun q hq => .inr ⟨(r, .box bt c), by simp, by simp at hq; subst hq; rfl⟩, fun W0 g σ n w a hS hr _ _ hp => ?_⟩
 have h1 := hr x (by simp [ho, Op.operands, Call.operands])
 have h2 := hr y (by simp [ho, Op.operands, Call.operands])
 rw [hx] at h1
 rw [hy] at h2
 have hp' : σ r = .box bt c := hp (r, .box bt c) (by simp)
 obtain ⟨cs, he⟩ := execOp_builtin (P := P) (a := a) ho w
 obtain ⟨b, v0, hloc, _, hrep, hheap, _⟩ := hS.box r bt c hp'
 obtain ⟨u0, hu0, hub, huc⟩ := hrep.get hc0
 have hsy1 : ys.all (fun x => x.sz == size) = true := by
  rw [List.all_eq_true] at hsy ⊢
  intro x hx
  have := hsy x hx
  simp only [Bool.and_eq_true] at this
  exact this.1
 generalize hv : a.eval x = v at h1
 generalize hw : a.eval y = yv at h2
 obtain ⟨k1, us, k2, k3, k4, k5⟩ := copySrc_vals (P := P) hS hY h2 hsy1
 have hmy : m ≤ ys.length := by rw [hm]; exact Nat.min_le_left _ _
 have hml : m ≤ len := by rw [hm]; exact Nat.min_le_right _ _
 have hone : ∀ q ∈ flat (us.take m), q.oneCell' = true := by
  intro q hq
  obtain ⟨v, hv, hq⟩ := mem_flat.1 hq
  obtain ⟨j, hj⟩ := List.getElem?_of_mem (List.mem_of_mem_take hv)
  have hlt : j < ys.length := by rw [← k2]; exact (List.getElem?_eq_some_iff.1 hj).1
  have hc := List.all_eq_true.1 hsy ys[j] (List.getElem_mem hlt)
  simp only [Bool.and_eq_true] at hc
  exact (k3 j _ v (List.getElem?_eq_getElem hlt) hj).cell_ok hc.2 q hq
 have hfl : (flat (us.take m)).length = m * size := by rw [flat_length _ size (fun v hv => k4 v (List.mem_of_mem_take hv)), List.length_take]; congr 1; omega
 cases h1 with
 | bs _ _ _ _ _ b' cap hb' hl hc =>
  rw [hloc] at hb'; cases hb'
  cases hu0 with
  | agg _ vs hvl hvr =>
   have hvs := sizes_of hvl hvr hsx
   obtain ⟨s1, s2, s3, s4, s5⟩ := spliced (lo := lo) (m := m) hvl k2 hvr k3 hvs k4 (by omega) hmy
   have hz : Rep g (.agg (xs.take lo ++ ys.take m ++ xs.drop (lo + m))) (.agg (flat (vs.take lo ++ us.take m ++ vs.drop (lo + m))).toArray) := .agg _ _ s1 s3
   have hflv : (flat vs).length = xs.length * size := by rw [flat_length vs size hvs, hvl]
   have hzl : (flat (vs.take lo ++ us.take m ++ vs.drop (lo + m))).length = (flat vs).length := by rw [flat_length _ size s4, hflv, s1, s2]
   have hsz : (AV.agg xs).sz = (AV.agg (xs.take lo ++ ys.take m ++ xs.drop (lo + m))).sz := by
    have e1 := (Rep.agg (g := g) xs vs hvl hvr).size
    have e2 := hz.size
    rw [← e1, ← e2]
    simp only [Value.cells, List.size_toArray]
    exact hzl.symm
   obtain ⟨v', hv', hvc⟩ := hrep.put hc0 hz hsz
   have hmulle : (lo + m) * size ≤ xs.length * size := Nat.mul_le_mul_right _ (by omega)
   have hub' : c.offs path + (flat vs).length ≤ v0.cells.toList.length := by
    rw [cells_agg, List.size_toArray] at hub
    rw [Array.length_toList]; exact hub
   have hT : flat vs = (v0.cells.toList.drop (c.offs path)).take (flat vs).length := by
    apply List.ext_getElem?
    intro j
    rw [List.getElem?_take, List.getElem?_drop]
    split
    ·rename_i hj
     rw [List.getElem?_eq_getElem hj]
     exact (huc j _ (by rw [cells_agg, List.toList_toArray, List.getElem?_eq_getElem hj])).symm
    ·rename_i hj
     rw [List.getElem?_eq_none (by omega)]
   have hnew : v'.cells.toList = v0.cells.toList.take off ++ flat (us.take m) ++ v0.cells.toList.drop (off + (flat (us.take m)).length) := by
    rw [hvc]
    rw [cells_agg, List.toList_toArray, List.size_toArray]
    rw [hzl, s5, list_splice2 v0.cells.toList (flat (us.take m)) (flat vs) (c.offs path) (lo * size) hT hub' (by rw [hfl, hflv, ← Nat.add_mul]; exact hmulle), hoff]
   have hfit : off + (flat (us.take m)).length ≤ v0.cells.size := by
    rw [hfl, ← hoff, Nat.add_assoc, ← Nat.add_mul]
    have : v0.cells.toList.length = v0.cells.size := Array.length_toList
    omega
   have hst := run_storeCells_fz (P := P) b off bt (0, 0) (flat (us.take m)) 0 v0.cells w hheap (noFz_zero _) (by simpa using hfit) hone
   simp only [Nat.add_zero] at hst
   rw [← hnew] at hst
   have hrun := run_copy (P := P) (ty := o.type) (sT := ts) (c := cap) (A := some ⟨b, off, none⟩) (sliceTy_sound ht) hs k1 hm (k5 m hmy) hst
   unfold runsTo
   have hexec : (execOp a.eval o).run P w = .ok (.value (.int .i64 m)) (w.setRow b v'.cells.toList.toArray) := by
    rw [he]
    simp [builtin, hv, hw, hrun]
   rw [hexec, Array.toArray_toList]
   exact ⟨g, g.le_refl, hS.store hp' hloc hv', .lit _ rfl⟩
theorem holds_clear_ms {t e : TypeId} {size r ver lo len : Nat} {x : Operand} {xs : List AV} {z : AV} (ho : o.op = .call { callee := .builtin .clear, args := #[x], argTypes := #[t] }) (ht : sliceTy P t = some e) (hs : sizeIs P e size = true) (hz : ztree P e = some z) (hzs : z.sz = size) (hzc : z.cell = true) (hpos : 0 < size)
  (hx : aeval s x = .ms r ver size lo len) (hlen : lo + len ≤ xs.length) :
  OpHolds P o s id [(r, .mrow ver e size xs)] (.tup []) [(r, .mrow ver e size (xs.take lo ++ (List.replicate len z).take len ++ xs.drop (lo + len)))] := by
 refine ⟨fun p hp => by simp at hp; subst hp; simp, fun q hq => .inr ⟨(r, .mrow ver e size xs), by simp, by simp at hq; subst hq; rfl⟩, fun W0 g σ n w a hS hr _ _ hp => ?_⟩
 have h1 := hr x (by simp [ho, Op.operands, Call.operands])
 rw [hx] at h1
 have hp' : σ r = .mrow ver e size xs := hp (r, .mrow ver e size xs) (by simp)
 obtain ⟨cs, he⟩ := execOp_builtin (P := P) (a := a) ho w
 obtain ⟨u, vs, hmr, hsl, hvl, hvr, hvs, hown⟩ := hS.mrowAt hp'
 obtain ⟨i, zv, hi, hzv, hrz⟩ := ztree_sound hz g
 obtain ⟨ie, hie, hsi⟩ := sizeIs_sound hs
 rw [hi] at hie; cases hie
 have hzsz : zv.cells.size = size := by rw [hrz.size, hzs]
 have hall : ∀ v ∈ List.replicate len zv, v.cells.size = size := fun v hv => by rw [List.eq_of_mem_replicate hv]; exact hzsz
 obtain ⟨s1, s2, s3, s4, s5⟩ := spliced (ys := List.replicate len z) (us := List.replicate len zv) (lo := lo) (m := len) hvl (by simp) hvr (rep_replicate hrz len) hvs hall (by omega) (by simp)
 generalize hv : a.eval x = v at h1
 have hnews : flat ((List.replicate len zv).take len) = (Builtin.zeroCells zv.cells len).toList := by
  rw [List.take_of_length_le (by simp)]
  have := flat_replicate len zv size hzsz hpos
  rw [← this]
  simp [Builtin.zeroCells, hzsz]
 have hfl : (flat ((List.replicate len zv).take len)).length = len * size := by rw [flat_length _ size (fun v hv => hall v (List.mem_of_mem_take hv)), List.length_take]; simp
 have hone : ∀ q ∈ flat ((List.replicate len zv).take len), q.oneCell' = true := by
  intro q hq
  obtain ⟨v, hv, hq⟩ := mem_flat.1 hq
  rw [List.eq_of_mem_replicate (List.mem_of_mem_take hv)] at hq
  exact hrz.cell_ok hzc q hq
 cases h1 with
 | ms _ _ _ _ _ ver' u' A c hm' hv' hl hc h =>
  rw [hmr] at hm'; cases hm'
  obtain ⟨A0, n0, c0, rfl, j1, j2, j3⟩ := h rfl
  simp only [slen] at hsl
  subst hsl
  unfold runsTo
  by_cases hm0 : len = 0
  ·subst hm0
   have hexec : (execOp a.eval o).run P w = .ok (.value (.tuple #[])) w := by
    rw [he]
    cases A <;> simp [builtin, hv, Builtin.clear_, run_underlying (sliceTy_sound ht)]
   rw [hexec]
   refine ⟨g, g.le_refl, ?_, .tup [] [] rfl fun i x v h _ => by simp at h⟩
   have e1 : xs.take lo ++ (List.replicate 0 z).take 0 ++ xs.drop (lo + 0) = xs := by simp
   have e2 : upd σ r (.mrow ver e size xs) = σ := by
    funext i
    by_cases hi : i = r
    ·subst hi; rw [upd_same, hp']
    ·rw [upd_ne _ _ _ _ hi]
   show Sim W0 g (upd σ r _) n w
   rw [e1, e2]; exact hS
  ·obtain ⟨b, rfl, rfl⟩ := j3 (by omega)
   obtain ⟨w', hst, l1, l2, l3, l4, l5, l6⟩ := row_written (P := P) (off := lo * size) (news := flat ((List.replicate len zv).take len)) hown (by
    rw [hfl, hown.1, ← Nat.add_mul]; exact Nat.mul_le_mul_right _ (by omega)) hone
   rw [hnews] at hst
   rw [← s5] at l1
   obtain ⟨g', hle, hS', _, _⟩ := hS.turnM (ver' := ver) (vs' := vs.take lo ++ (List.replicate len zv).take len ++ vs.drop (lo + len)) hp' hmr (.inl ⟨rfl, rfl⟩) (by rw [s2]; exact l1) (by simp only [slen]; rw [s2]) s1 s3 s4 l2 l3 l4 l5 (.inl rfl) (fun j hj _ => l6 j (fun e => hj (by rw [e]; rfl)))
   obtain ⟨len', rfl⟩ : ∃ k, len = k + 1 := ⟨len - 1, by omega⟩
   have hexec : (execOp a.eval o).run P w = .ok (.value (.tuple #[])) w' := by
    rw [he]
    simp [builtin, hv, Builtin.clear_, run_underlying (sliceTy_sound ht), zeroValue, typeInfo, hi, hzv, hst]
   rw [hexec]
   exact ⟨g', hle, hS', .tup [] [] rfl fun i x v h _ => by simp at h⟩
theorem holds_convert_str_bytes {src dst e : TypeId} {x : Operand} {b : ByteArray} (ho : o.op = .convert src dst x) (hs : strTy P src = true) (hd : sliceTy P dst = some e) (he : byteTy P e = true) (_h1 : sizeIs P e 1 = true) (hx : aeval s x = .lit (.string b)) (hb : b.size ≤ maxLen) :
  OpHolds P o s id [] (.ms id 0 1 0 b.size) [(id, .mrow 0 e 1 (b.data.toList.map byteAV))] := by
 refine ⟨fun p hp => (by cases hp), fun q hq => .inl (by simp at hq; subst hq; rfl), fun W0 g σ n w a hS hr hf hn _ => ?_⟩
 have h2 := hr x (by simp [ho, Op.operands])
 rw [hx] at h2
 have e2 := rep_lit_inv h2
 have heu : P.underlying e = some (.int .u8) := by
  unfold byteTy at he
  split at he
  ·assumption
  ·cases he
 have hrun := run_bytes_of_string (P := P) w src dst e b (strTy_sound hs) (sliceTy_sound hd) heu
 have hge := grownCap_ge w b.size 0 e
 have hcm := grownCap_le_maxLen w b.size 0 e hb
 let vs : List Value := b.data.toList.map fun c => Value.int .u8 (c.toNat : Int)
 have hlits : ∀ v ∈ vs, v.oneCell' = true := fun v hv => by obtain ⟨c, _, rfl⟩ := List.mem_map.1 hv; rfl
 have hxs : (b.data.toList.map byteAV).length = b.size := by simp
 have hdrew : Sim W0 g σ n w.drew := hS.drew
 obtain ⟨g', hle, hS', hrp⟩ := hdrew.newM (k := id) (e := e) (size := 1) (xs := b.data.toList.map byteAV) (vs := vs) hf hn (bytesRow b (grownCap w b.size 0 e)) (grownCap w b.size 0 e) (by simp [vs]) (byteVals_rep g _) (fun v hv => by rw [oneCell_size (hlits v hv)]) (by rw [hxs]; exact hge) hcm
  (by simp [bytesRow]; omega) (by
   rw [hxs, flat_lits vs hlits]
   simp only [bytesRow, Array.toList_append, Array.toList_map, Nat.mul_one]
   rw [List.take_append_of_le_length (by simp), List.take_of_length_le (by simp)]) (fz := ((bytesRow b (grownCap w b.size 0 e)).size, (bytesRow b (grownCap w b.size 0 e)).size + 1)) (.inr (Nat.le_refl _))
 unfold runsTo
 have hexec : (execOp a.eval o).run P w = .ok (.value (.slice (some ⟨w.heap.size, 0, none⟩) b.size (grownCap w b.size 0 e))) (w.drew.alloc (.cells (bytesRow b (grownCap w b.size 0 e)) e ((bytesRow b (grownCap w b.size 0 e)).size, (bytesRow b (grownCap w b.size 0 e)).size + 1))) := by
  simp [execOp, ho, e2, hrun]
 rw [hexec]
 rw [hxs] at hrp
 exact ⟨g', hle, hS', hrp⟩
theorem holds_makeInterface {t : TypeId} {x : Operand} (ho : o.op = .makeInterface t x) (ht : P.concrete t = true) : OpHolds P o s id [] (.iface t (aeval s x)) [] :=
 holds_pure fun g w a hr => by
  have h1 := hr x (by simp [ho, Op.operands])
  exact ⟨.iface t (a.eval x), by simp [execOp, ho, run_makeInterface, ht], .iface t _ _ h1⟩
def assertT (P : Program) (asserted : TypeId) (x : AV) : Option AV :=
 if P.concrete asserted then
  match x with
  | .iface t y => if t = asserted then some (.tup [y, .lit (.bool true)]) else (ztree P asserted).map fun z => .tup [z, .lit (.bool false)]
  | .lit .nilIface => (ztree P asserted).map fun z => .tup [z, .lit (.bool false)]
  | _ => none
 else none
theorem concrete_desc {t : TypeId} (h : P.concrete t = true) : ∃ d, P.underlying t = some d ∧ ∀ ms, d ≠ .interface ms := by
 unfold Program.concrete at h
 cases hu : P.underlying t with
 | none => rw [hu] at h; simp at h
 | some d =>
  rw [hu] at h
  refine ⟨d, rfl, fun ms e => ?_⟩
  subst e
  simp at h
end

inductive EqSh where
 | bool
 | int
 | str
 | bytes (n : Nat)
 | agg (l : List EqSh)
mutual
def EqSh.size : EqSh → Nat
 | .bytes n => n
 | .agg l => EqSh.sizes l
 | _ => 1
def EqSh.sizes : List EqSh → Nat
 | [] => 0
 | x :: r => EqSh.size x + EqSh.sizes r
end
def EqSh.isAgg : EqSh → Bool
 | .bytes _ => true
 | .agg _ => true
 | _ => false
def bytesOf0 : List AV → Option (List UInt8)
 | [] => some []
 | .lit (.int .u8 n) :: r => if 0 ≤ n ∧ n < 256 then (bytesOf0 r).map (UInt8.ofNat n.toNat :: ·) else none
 | _ :: _ => none
theorem bytesOf0_sound : ∀ {xs : List AV} {bs : List UInt8}, bytesOf0 xs = some bs → xs = bs.map byteAV
 | [], bs, h => by simp [bytesOf0] at h; subst h; rfl
 | x :: r, bs, h => by
  unfold bytesOf0 at h
  split at h
  ·rename_i e; simp at e
  ·rename_i n r' e
   simp at e
   obtain ⟨rfl, rfl⟩ := e
   split at h
   ·rename_i hn
    cases hr : bytesOf0 r with
    | none => rw [hr] at h; cases h
    | some q =>
     rw [hr] at h
     cases h
     rw [bytesOf0_sound hr]
     simp only [List.map_cons, byteAV]
     congr 3
     rw [UInt8.toNat_ofNat']
     omega
   ·cases h
  ·cases h
theorem bytesOf0_map (bs : List UInt8) : bytesOf0 (bs.map byteAV) = some bs := by
 induction bs with
 | nil => rfl
 | cons b r ih =>
  have := b.toNat_lt
  simp only [List.map_cons, byteAV, bytesOf0, Int.toNat_natCast, UInt8.ofNat_toNat]
  rw [if_pos (by omega)]
  rw [ih]
  rfl
mutual
def eqA : EqSh → AV → AV → Option Bool
 | .bool, .lit (.bool a), .lit (.bool b) => some (a == b)
 | .int, .lit (.int k a), .lit (.int k' b) => if k = k' then some (a == b) else none
 | .str, .lit (.string a), .lit (.string b) => some (a.toList == b.toList)
 | .bytes n, .agg xs, .agg ys => match bytesOf0 xs, bytesOf0 ys with
  | some a, some b => if a.length = n ∧ b.length = n then some (a == b) else none
  | _, _ => none
 | .agg l, .agg xs, .agg ys => eqAs l xs ys
 | _, _, _ => none
def eqAs : List EqSh → List AV → List AV → Option Bool
 | [], [], [] => some true
 | s :: l, x :: xs, y :: ys => match eqA s x y, eqAs l xs ys with
  | some a, some b => some (a && b)
  | _, _ => none
 | _, _, _ => none
end
def fieldsOK (P : Program) : List Field → List EqSh → Nat → Bool
 | [], [], _ => true
 | f :: fs, s :: l, off => f.name != "_" && f.offset == off && tyIs P f.type s.isAgg s.size && fieldsOK P fs l (off + s.size)
 | _, _, _ => false
def eqShape (P : Program) : Nat → TypeId → Option EqSh
 | 0, _ => none
 | m + 1, t => match P.underlying t with
  | some .bool => some .bool
  | some (.int _) => some .int
  | some .string => some .str
  | some (.array n e) => match P.underlying e, P.info? e with
   | some (.int .u8), some i => if i.size == 1 then some (.bytes n) else none
   | _, _ => none
  | some (.struct fs) => match fs.toList.mapM fun f => eqShape P m f.type with
   | some l => if fieldsOK P fs.toList l 0 && !(P.stoodInHeld t) && (P.info? t).isSome then some (.agg l) else none
   | none => none
  | _ => none
section
variable {P : Program}
theorem run_part {g : Ghost} {x : AV} {v : Value} (hr : Rep g x v) {t : TypeId} (ht : tyIs P t x.isAgg x.sz = true) (hx : x.isAgg = true ∨ x.one = true) {cs : Array Value} {off : Nat} (hc : ∀ (j : Nat) (u : Value), v.cells.toList[j]? = some u → cs.toList[off + j]? = some u) (hfit : off + v.cells.size ≤ cs.size) (w : World) :
  (part t cs off).run P w = .ok v w := by
 obtain ⟨h1, h2⟩ := tyIs_sound ht w
 unfold part
 rw [Sem.run_bind, h1]
 simp only [Result.andThen_ok]
 cases ha : x.isAgg with
 | true =>
  cases hr <;> simp [AV.isAgg] at ha
  case agg xs vs hvl hvr =>
   simp only [if_true, Sem.run_bind, h2, Result.andThen_ok, Sem.run_pure]
   have hsz : (flat vs).length = (AV.agg xs).sz := by
    have := (Rep.agg (g := g) xs vs hvl hvr).size
    simpa [Value.cells] using this
   congr 2
   apply Array.ext'
   simp only [cells_agg, List.size_toArray] at hfit
   have e : (cs.extract off (off + (AV.agg xs).sz)).toList = (cs.toList.drop off).take (AV.agg xs).sz := by
    simp [Array.toList_extract, List.extract]
   rw [e, ← hsz]
   apply List.ext_getElem?
   intro j
   rw [List.getElem?_take]
   split
   ·rename_i hj
    rw [List.getElem?_drop, List.getElem?_eq_getElem hj]
    exact hc j _ (by rw [cells_agg, List.toList_toArray, List.getElem?_eq_getElem hj])
   ·rename_i hj
    symm
    rw [List.getElem?_eq_none_iff]
    simp only
    omega
 | false =>
  have h1' : x.one = true := by
   rcases hx with hx | hx
   ·rw [ha] at hx; cases hx
   ·exact hx
  have hcv := hr.cells_one h1'
  have := hc 0 v (by rw [hcv]; rfl)
  simp only [Nat.add_zero, Array.getElem?_toList] at this
  simp only [Bool.false_eq_true, if_false, this, Sem.run_pure]
def EqRes (P : Program) (d : Nat) (t : TypeId) (x y : AV) (r : Bool) : Prop := ∀ (g : Ghost) (u v : Value) (w : World), Rep g x u → Rep g y v → (Op.equalIn d t u v).run P w = .ok r w
theorem eqA_form {sh : EqSh} {x y : AV} {r : Bool} (h : eqA sh x y = some r) : x.isAgg = sh.isAgg ∧ y.isAgg = sh.isAgg ∧ (x.isAgg = true ∨ x.one = true) ∧ (y.isAgg = true ∨ y.one = true) := by
 unfold eqA at h
 split at h <;> first | (cases h; done) | simp [AV.isAgg, EqSh.isAgg, AV.one]
mutual
theorem eqA_size {g : Ghost} : ∀ {sh : EqSh} {x y : AV} {r : Bool}, eqA sh x y = some r → x.sz = sh.size ∧ y.sz = sh.size
 | .bool, x, y, r, h => by
  unfold eqA at h
  split at h <;> first | (cases h; done) | simp_all [AV.sz, EqSh.size]
 | .int, x, y, r, h => by
  unfold eqA at h
  split at h <;> first | (cases h; done) | simp_all [AV.sz, EqSh.size]
 | .str, x, y, r, h => by
  unfold eqA at h
  split at h <;> first | (cases h; done) | simp_all [AV.sz, EqSh.size]
 | .bytes n, x, y, r, h => by
  unfold eqA at h
  split at h <;> first | (cases h; done) | skip
  all_goals try (rename_i e; cases e; done)
  rename_i n' xs ys e
  cases e
  split at h
  ·rename_i a b ha hb
   split at h
   ·rename_i hl
    rw [bytesOf0_sound ha, bytesOf0_sound hb]
    have hu : ∀ l : List UInt8, AV.szl (l.map byteAV) = l.length := fun l => by
     rw [AV.szl_uniform _ 1 fun x hx => by obtain ⟨b, _, rfl⟩ := List.mem_map.1 hx; rfl]; simp
    simp only [AV.sz, hu, EqSh.size]
    exact hl
   ·cases h
  ·cases h
 | .agg l, x, y, r, h => by
  unfold eqA at h
  split at h <;> first | (cases h; done) | skip
  all_goals try (rename_i e; cases e; done)
  rename_i l' xs ys e
  cases e
  have := eqAs_size (g := g) h
  simpa only [AV.sz, EqSh.size] using this
theorem eqAs_size {g : Ghost} : ∀ {l : List EqSh} {xs ys : List AV} {r : Bool}, eqAs l xs ys = some r → AV.szl xs = EqSh.sizes l ∧ AV.szl ys = EqSh.sizes l
 | [], xs, ys, r, h => by
  unfold eqAs at h
  split at h <;> first | (cases h; done) | simp_all [AV.szl, EqSh.sizes]
 | s :: l, xs, ys, r, h => by
  unfold eqAs at h
  split at h <;> first | (cases h; done) | skip
  all_goals try (rename_i e; cases e; done)
  rename_i s' l' x xs y ys e
  cases e
  split at h
  ·rename_i a b ha hb
   obtain ⟨h1, h2⟩ := eqA_size (g := g) ha
   obtain ⟨h3, h4⟩ := eqAs_size (g := g) hb
   simp only [AV.szl, EqSh.sizes, h1, h2, h3, h4, and_self]
  ·cases h
end
theorem eqFields_sound (d : Nat) (g : Ghost) (w : World) : ∀ (fs : List Field) (l : List EqSh) (off : Nat) (xs ys : List AV) (us vs : List Value) (cx cy : Array Value) (r : Bool), fieldsOK P fs l off = true → eqAs l xs ys = some r →
  (∀ (i : Nat) (f : Field) (s : EqSh), fs[i]? = some f → l[i]? = some s → ∀ x y r, eqA s x y = some r → EqRes P d f.type x y r) →
  us.length = xs.length → vs.length = ys.length → (∀ (i : Nat) (x : AV) (v : Value), xs[i]? = some x → us[i]? = some v → Rep g x v) → (∀ (i : Nat) (x : AV) (v : Value), ys[i]? = some x → vs[i]? = some v → Rep g x v) →
  (∀ (j : Nat) (u : Value), (flat us)[j]? = some u → cx.toList[off + j]? = some u) → (∀ (j : Nat) (u : Value), (flat vs)[j]? = some u → cy.toList[off + j]? = some u) → off + (flat us).length ≤ cx.size → off + (flat vs).length ≤ cy.size →
  (Op.eqFields d cx cy fs).run P w = .ok r w
 | [], l, off, xs, ys, us, vs, cx, cy, r, hf, he, _, _, _, _, _, _, _, _, _ => by
  cases l with
  | nil =>
   cases xs <;> cases ys <;> simp [eqAs] at he
   subst he
   simp [Op.eqFields]
  | cons s l => simp [fieldsOK] at hf
 | f :: fs, l, off, xs, ys, us, vs, cx, cy, r, hf, he, IH, hul, hvl, hur, hvr, hcx, hcy, hlx, hly => by
  cases l with
  | nil => simp [fieldsOK] at hf
  | cons s l =>
   simp only [fieldsOK, Bool.and_eq_true, bne_iff_ne, ne_eq, beq_iff_eq] at hf
   obtain ⟨⟨⟨hn, ho⟩, ht⟩, hrest⟩ := hf
   cases xs with
   | nil => cases ys <;> simp [eqAs] at he
   | cons x xs =>
   cases ys with
   | nil => simp [eqAs] at he
   | cons y ys =>
   unfold eqAs at he
   split at he
   ·rename_i a b ha hb
    cases he
    cases us with
    | nil => simp at hul
    | cons u us =>
    cases vs with
    | nil => simp at hvl
    | cons v vs =>
    have hru : Rep g x u := hur 0 x u rfl rfl
    have hrv : Rep g y v := hvr 0 y v rfl rfl
    obtain ⟨f1, f2, f3, f4⟩ := eqA_form ha
    obtain ⟨z1, z2⟩ := eqA_size (g := g) ha
    rw [flat_cons] at hcx hcy hlx hly
    have lu : u.cells.toList.length = s.size := by rw [Array.length_toList, hru.size, z1]
    have lv : v.cells.toList.length = s.size := by rw [Array.length_toList, hrv.size, z2]
    rw [List.length_append, lu] at hlx
    rw [List.length_append, lv] at hly
    have p1 := run_part (P := P) hru (t := f.type) (by rw [f1, z1]; exact ht) f3 (cs := cx) (off := f.offset) (fun j q hq => by
     rw [ho]
     refine hcx j q ?_
     rw [List.getElem?_append_left (List.getElem?_eq_some_iff.1 hq).1]; exact hq) (by rw [ho, ← Array.length_toList, lu]; omega) w
    have p2 := run_part (P := P) hrv (t := f.type) (by rw [f2, z2]; exact ht) f4 (cs := cy) (off := f.offset) (fun j q hq => by
     rw [ho]
     refine hcy j q ?_
     rw [List.getElem?_append_left (List.getElem?_eq_some_iff.1 hq).1]; exact hq) (by rw [ho, ← Array.length_toList, lv]; omega) w
    have p3 := IH 0 f s rfl rfl x y a ha g u v w hru hrv
    have p4 := eqFields_sound d g w fs l (off + s.size) xs ys us vs cx cy b hrest hb (fun i f' s' h1 h2 => IH (i + 1) f' s' h1 h2) (by simpa using hul) (by simpa using hvl) (fun i x v h1 h2 => hur (i + 1) x v h1 h2) (fun i x v h1 h2 => hvr (i + 1) x v h1 h2)
     (fun j q hq => by
      have := hcx (s.size + j) q (by rw [List.getElem?_append_right (by omega), lu, Nat.add_sub_cancel_left]; exact hq)
      rw [Nat.add_assoc]; exact this) (fun j q hq => by
      have := hcy (s.size + j) q (by rw [List.getElem?_append_right (by omega), lv, Nat.add_sub_cancel_left]; exact hq)
      rw [Nat.add_assoc]; exact this) (by omega) (by omega)
    simp only [Op.eqFields, hn, ne_eq, not_false_eq_true, if_true, Sem.run_bind, p1, p2, p3, Result.andThen_ok]
    cases a
    ·simp
    ·simpa using p4
   ·cases he
theorem mapM_at {α β : Type} {F : α → Option β} : ∀ {l : List α} {r : List β}, l.mapM F = some r → ∀ (i : Nat) (x : α) (y : β), l[i]? = some x → r[i]? = some y → F x = some y
 | [], r, h => by intro i x y hx; simp at hx
 | a :: l, r, h => by
  rw [List.mapM_cons] at h
  simp only [bind, Option.bind_eq_some_iff, pure, Option.some.injEq] at h
  obtain ⟨b, hb, bs, hbs, rfl⟩ := h
  intro i x y hx hy
  cases i with
  | zero => simp at hx hy; subst hx; subst hy; exact hb
  | succ i => exact mapM_at hbs i x y (by simpa using hx) (by simpa using hy)
theorem run_eqBytes (d : Nat) {e : TypeId} (he : P.underlying e = some (.int .u8)) (w : World) (a b : List UInt8) (hl : a.length = b.length) : ∀ (k i : Nat), i + k = a.length →
  (Op.eqItems (d + 1) e 1 (a.map fun c => Value.int .u8 (c.toNat : Int)).toArray (b.map fun c => Value.int .u8 (c.toNat : Int)).toArray (List.range' i k)).run P w = .ok (a.drop i == b.drop i) w
 | 0, i, hi => by
  simp [Op.eqItems]
  rw [List.drop_eq_nil_of_le (by omega), List.drop_eq_nil_of_le (by omega)]
 | k + 1, i, hi => by
  have h1 : i < a.length := by omega
  have h2 : i < b.length := by omega
  have ha : (isAgg e).run P w = .ok false w := by simp [isAgg, run_underlying he]
  have pa : ∀ c : List UInt8, (hc : i < c.length) → (part e (c.map fun c => Value.int .u8 (c.toNat : Int)).toArray (i * 1)).run P w = .ok (.int .u8 (c[i].toNat : Int)) w := fun c hc => by
   simp [part, ha, hc]
  have ih := run_eqBytes d he w a b hl k (i + 1) (by omega)
  have hdec : ((a[i].toNat : Int) == (b[i].toNat : Int)) = (a[i] == b[i]) := by
   rw [Bool.eq_iff_iff]
   simp only [beq_iff_eq]
   constructor
   ·intro h; exact UInt8.toNat_inj.1 (by omega)
   ·intro h; rw [h]
  rw [List.range'_succ]
  simp only [Op.eqItems, Sem.run_bind, pa a h1, pa b h2, Result.andThen_ok, run_equalIn_int w d e .u8 .u8 _ _ he, hdec]
  rw [List.drop_eq_getElem_cons h1, List.drop_eq_getElem_cons h2]
  cases hb : a[i] == b[i]
  ·have : (a[i] :: a.drop (i + 1) == b[i] :: b.drop (i + 1)) = false := by
    simp only [List.cons_beq_cons, hb, Bool.false_and]
   rw [this]; simp
  ·have : (a[i] :: a.drop (i + 1) == b[i] :: b.drop (i + 1)) = (a.drop (i + 1) == b.drop (i + 1)) := by
    simp only [List.cons_beq_cons, hb, Bool.true_and]
   rw [this]; simpa using ih
theorem eqShape_sound : ∀ (m : Nat) (t : TypeId) (sh : EqSh), eqShape P m t = some sh → ∀ (d : Nat) (x y : AV) (r : Bool), eqA sh x y = some r → EqRes P (d + m + 1) t x y r
 | 0, t, sh, h => by simp [eqShape] at h
 | m + 1, t, sh, h => by
  intro d x y r he g u v w hu hv
  unfold eqShape at h
  split at h
  ·rename_i ht
   cases h
   unfold eqA at he
   split at he <;> first | (cases he; done) | skip
   all_goals try (rename_i e; cases e; done)
   cases he
   rw [rep_lit_inv hu, rep_lit_inv hv]
   exact run_equalIn_bool ht _ _ _ w
  ·rename_i k ht
   cases h
   unfold eqA at he
   split at he <;> first | (cases he; done) | skip
   all_goals try (rename_i e; cases e; done)
   split at he
   ·rename_i hk
    subst hk
    cases he
    rw [rep_lit_inv hu, rep_lit_inv hv]
    exact run_equalIn_int w _ t _ _ _ _ ht
   ·cases he
  ·rename_i ht
   cases h
   unfold eqA at he
   split at he <;> first | (cases he; done) | skip
   all_goals try (rename_i e; cases e; done)
   cases he
   rw [rep_lit_inv hu, rep_lit_inv hv]
   exact run_equalIn_string w _ t _ _ ht
  ·rename_i n e ht
   split at h
   ·rename_i i he' hi
    split at h
    ·rename_i hsz
     cases h
     unfold eqA at he
     split at he <;> first | (cases he; done) | skip
     all_goals try (rename_i e; cases e; done)
     rename_i n' xs ys e1
     cases e1
     split at he
     ·rename_i a b ha hb
      split at he
      ·rename_i hl
       cases he
       obtain ⟨hl1, hl2⟩ := hl
       rw [bytesOf0_sound ha] at hu
       rw [bytesOf0_sound hb] at hv
       cases hu with
       | agg _ us hul hur =>
       cases hv with
       | agg _ vs hvl hvr =>
       rw [rep_bytes hul hur, rep_bytes hvl hvr, flat_lits _ (fun v hv => by obtain ⟨b, _, rfl⟩ := List.mem_map.1 hv; rfl), flat_lits _ (fun v hv => by obtain ⟨b, _, rfl⟩ := List.mem_map.1 hv; rfl)]
       have hc : P.cellsOf e = 1 := by
        simp only [Program.cellsOf, hi]
        simpa using hsz
       rw [show d + (m + 1) + 1 = (d + m + 1) + 1 from by omega, run_equalIn_array w (d + m + 1) _ _ ht hi, hc, List.range_eq_range']
       have := run_eqBytes (P := P) (d + m) he' w a b (by omega) n 0 (by omega)
       simpa using this
      ·cases he
     ·cases he
    ·cases h
   ·cases h
  ·rename_i fs ht
   split at h
   ·rename_i l hl
    split at h
    ·rename_i hc
     cases h
     simp only [Bool.and_eq_true, Bool.not_eq_true'] at hc
     obtain ⟨⟨hc1, hc2⟩, _⟩ := hc
     unfold eqA at he
     split at he <;> first | (cases he; done) | skip
     all_goals try (rename_i e; cases e; done)
     rename_i l' xs ys e1
     cases e1
     cases hu with
     | agg _ us hul hur =>
     cases hv with
     | agg _ vs hvl hvr =>
     have hfs : P.fieldsOf t = fs := by simp [Program.fieldsOf, ht]
     rw [show d + (m + 1) + 1 = (d + m + 1) + 1 from by omega, run_equalIn_struct w (d + m + 1) t _ _ (by rw [hfs]; exact ht) hc2, hfs]
     exact eqFields_sound (P := P) (d + m + 1) g w fs.toList l 0 xs ys us vs _ _ r hc1 he (fun i f s h1 h2 x y r hr => eqShape_sound m f.type s (mapM_at hl i f s h1 h2) d x y r hr) hul hvl hur hvr
      (fun j q hq => by rw [Nat.zero_add]; exact hq) (fun j q hq => by rw [Nat.zero_add]; exact hq) (by simp) (by simp)
    ·cases h
   ·cases h
  ·cases h
def eqTop (P : Program) (t : TypeId) : Option EqSh := if P.eqGuardType P.depth t then none else eqShape P 8 t
def evEqA (P : Program) (op : BinOp) (t : TypeId) (x y : AV) : Option Bool :=
 match eqTop P t with
 | some sh => match eqA sh x y with
  | some r => match op with
   | .eql => some r
   | .neq => some !r
   | _ => none
  | none => none
 | none => none
theorem holds_eqA {o : Oper} {s : Slots} {id : Nat} {op : BinOp} {t yt : TypeId} {x y : Operand} {xs ys : List AV} {r : Bool} (ho : o.op = .binOp op t x y yt) (hx : aeval s x = .agg xs) (hy : aeval s y = .agg ys) (h : evEqA P op t (.agg xs) (.agg ys) = some r) :
  OpHolds P o s id [] (.lit (.bool r)) [] :=
 holds_pure fun g w a hr => by
  have h1 := hr x (by simp [ho, Op.operands])
  have h2 := hr y (by simp [ho, Op.operands])
  rw [hx] at h1
  rw [hy] at h2
  refine ⟨.bool r, ?_, .lit _ rfl⟩
  unfold evEqA eqTop at h
  split at h
  ·rename_i sh hsh
   split at hsh
   ·cases hsh
   ·rename_i hg
    split at h
    ·rename_i r0 hr0
     generalize hX : a.eval x = X at h1
     generalize hY : a.eval y = Y at h2
     have hrun := eqShape_sound (P := P) 8 t sh hsh 9991 _ _ r0 hr0 g _ _ w h1 h2
     cases h1 with
     | agg _ us _ _ =>
     cases h2 with
     | agg _ vs _ _ =>
     have hg' : P.eqGuardType P.depth t = false := by simpa using hg
     have hgd := fun op => run_eqGuard_agg (P := P) w op t x y (flat us).toArray (flat vs).toArray hg'
     split at h
     ·cases h
      have := run_eql_struct (P := P) w t (flat us).toArray (flat vs).toArray
      rw [hrun] at this
      simp only [Result.andThen_ok] at this
      simp only [execOp, ho, hX, hY, Sem.run_bind, hgd, Result.andThen_ok, this, Sem.run_pure]
     ·cases h
      have := run_neq_struct (P := P) w t (flat us).toArray (flat vs).toArray
      rw [hrun] at this
      simp only [Result.andThen_ok] at this
      simp only [execOp, ho, hX, hY, Sem.run_bind, hgd, Result.andThen_ok, this, Sem.run_pure]
     ·cases h
    ·cases h
  ·cases h
theorem holds_typeAssert {o : Oper} {s : Slots} {id : Nat} {x : Operand} {xt at' : TypeId} {v : AV} (ho : o.op = .typeAssert x xt at' true) (h : assertT P at' (aeval s x) = some v) : OpHolds P o s id [] v [] :=
 holds_pure fun g w a hr => by
  have h1 := hr x (by simp [ho, Op.operands])
  unfold assertT at h
  split at h
  ·rename_i hc
   obtain ⟨d, hd, hni⟩ := concrete_desc hc
   generalize hX : a.eval x = X at h1
   split at h
   ·rename_i t y hy
    rw [hy] at h1
    cases h1 with
    | iface _ _ u hu =>
     split at h
     ·rename_i htt
      subst htt
      cases h
      refine ⟨.tuple #[u, .bool true], ?_, ?_⟩
      ·simp only [execOp, ho, hX, Sem.run_bind, Instr.typeAssert, run_underlying hd, Result.andThen_ok]
       cases d <;> first | (exact absurd rfl (hni _)) | simp
      ·refine .tup [y, .lit (.bool true)] [u, .bool true] rfl fun i x v hx hv => ?_
       match i with
       | 0 => simp at hx hv; subst hx; subst hv; exact hu
       | 1 => simp at hx hv; subst hx; subst hv; exact .lit _ rfl
       | n + 2 => simp at hx
     ·rename_i htt
      simp only [Option.map_eq_some_iff] at h
      obtain ⟨z, hz, rfl⟩ := h
      obtain ⟨i, zv, hi, hzv, hrz⟩ := ztree_sound hz g
      refine ⟨.tuple #[zv, .bool false], ?_, ?_⟩
      ·simp only [execOp, ho, hX, Sem.run_bind, Instr.typeAssert, run_underlying hd, Result.andThen_ok]
       cases d <;> first | (exact absurd rfl (hni _)) | simp [htt, zeroValue, typeInfo, hi, hzv]
      ·refine .tup [z, .lit (.bool false)] [zv, .bool false] rfl fun i x v hx hv => ?_
       match i with
       | 0 => simp at hx hv; subst hx; subst hv; exact hrz
       | 1 => simp at hx hv; subst hx; subst hv; exact .lit _ rfl
       | n + 2 => simp at hx
   ·rename_i hy
    rw [hy] at h1
    have e := rep_lit_inv h1
    subst e
    simp only [Option.map_eq_some_iff] at h
    obtain ⟨z, hz, rfl⟩ := h
    obtain ⟨i, zv, hi, hzv, hrz⟩ := ztree_sound hz g
    refine ⟨.tuple #[zv, .bool false], ?_, ?_⟩
    ·simp only [execOp, ho, hX, Sem.run_bind, Instr.typeAssert, run_underlying hd, Result.andThen_ok]
     cases d <;> first | (exact absurd rfl (hni _)) | simp [zeroValue, typeInfo, hi, hzv]
    ·refine .tup [z, .lit (.bool false)] [zv, .bool false] rfl fun i x v hx hv => ?_
     match i with
     | 0 => simp at hx hv; subst hx; subst hv; exact hrz
     | 1 => simp at hx hv; subst hx; subst hv; exact .lit _ rfl
     | n + 2 => simp at hx
   ·cases h
  ·cases h
end

section
variable {P : Program} {o : Oper} {s : Slots} {id : Nat}
theorem zeroCells_one {z : Value} {m : Nat} (hpos : 0 < z.cells.size) (h1 : ∀ u ∈ z.cells.toList, u.oneCell' = true) : ∀ u ∈ (Builtin.zeroCells z.cells m).toList, u.oneCell' = true := by
 intro u hu
 simp only [Builtin.zeroCells, Array.toList_map, List.mem_map] at hu
 obtain ⟨j, hj, rfl⟩ := hu
 have hlt : j % z.cells.size < z.cells.size := Nat.mod_lt _ hpos
 refine h1 _ ?_
 rw [getElem!_pos z.cells _ hlt]
 exact Array.getElem_mem_toList hlt
theorem run_append_zeros_room {w : World} {t tn ty e : TypeId} {i : TypeInfo} {z : Value} {k kn : IntKind} (ht : P.underlying t = some (.slice e)) (htn : P.underlying tn = some (.int kn)) (hi : P.info? e = some i) (hz : i.zero = some z) (hzs : z.cells.size = i.size) (hpos : 0 < i.size)
  {g sLen sCap : Nat} {cur : Array Value} {fz : Nat × Nat} (hg : w.heap[g]? = some (.cells cur e fz)) (hfz : noFz fz cur.size) {m : Nat} (hm : 0 < m) (h1 : ∀ u ∈ z.cells.toList, u.oneCell' = true) (hmb : m * i.bytes ≤ 140737488355328) (hm63 : m ≤ 140737488355328)
  (hroom : sLen + m ≤ sCap) (hfit : sLen * i.size + m * i.size ≤ cur.size) :
  (Builtin.append_ #[t, tn] ty #[.slice (some ⟨g, 0, none⟩) sLen sCap, .int k (m : Int)]).run P w =
   .ok (.slice (some ⟨g, 0, none⟩) (sLen + m) sCap) (w.setRow g (cur.toList.take (sLen * i.size) ++ (Builtin.zeroCells z.cells m).toList ++ cur.toList.drop (sLen * i.size + (Builtin.zeroCells z.cells m).toList.length)).toArray) := by
 have hzl : (Builtin.zeroCells z.cells m).toList.length = m * i.size := by rw [Array.length_toList, size_zeroCells, hzs]
 have hst := run_storeCells_fz (P := P) g (sLen * i.size) e fz (Builtin.zeroCells z.cells m).toList 0 cur w hg hfz (by rw [hzl]; simpa using hfit) (zeroCells_one (by omega) h1)
 simp only [Nat.add_zero] at hst
 have hw : IntKind.i64.wrap (m : Int) = m := by rw [IntKind.wrap_i64]; omega
 have hm0 : m ≠ 0 := by omega
 have hs0 : i.size ≠ 0 := by omega
 have h48i : ¬ (281474976710656 < (m : Int) * (i.bytes : Int)) := by
  rw [← Int.natCast_mul]
  omega
 have hneg : ¬ ((m : Int) < 0) := by omega
 have hmz : ¬ m * i.size = 0 := fun h => by rcases Nat.mul_eq_zero.1 h with h | h <;> omega
 simp [Builtin.append_, run_underlying ht, run_underlying htn, asInt, asIntOf, sizeOf, typeInfo, zeroValue, hi, hz, hw, h48i, hneg, hroom, hmz, Addr.add_lit, hst]
theorem holds_append_zeros {t tn e : TypeId} {size bytes r : Nat} {z : AV} {x y : Operand} {xs : List AV} {k kn : IntKind} {m : Int} (ho : o.op = .call { callee := .builtin .append, args := #[x, y], argTypes := #[t, tn] }) (ht : sliceTy P t = some e) (htn : intTy P tn = some kn) (hs : sizeIs P e size = true) (hb : bytesIs P e bytes = true)
  (hz : ztree P e = some z) (hzs : z.sz = size) (hzc : z.cell = true) (hpos : 0 < size) (hx : aeval s x = .slice (some r) xs) (hy : aeval s y = .lit (.int k m)) (h0 : 0 ≤ m)
  (hsx : xs.all (fun x => x.sz == size) = true) (hbytes : (xs.length + m.toNat) * bytes ≤ 140737488355328) (hmx : xs.length + m.toNat ≤ 140737488355328) :
  OpHolds P o s id [(r, .row e size xs.length)] (.slice (some r) (xs ++ List.replicate m.toNat z)) [(r, .row e size (xs.length + m.toNat))] := by
 refine ⟨fun p hp => by simp at hp; subst hp; simp, fun q hq => .inr ⟨(r, .row e size xs.length), by simp, by simp at hq; subst hq; rfl⟩, fun W0 g σ n w a hS hr _ _ hp => ?_⟩
 have h1 := hr x (by simp [ho, Op.operands, Call.operands])
 have h2 := hr y (by simp [ho, Op.operands, Call.operands])
 rw [hx] at h1
 rw [hy] at h2
 have e2 := rep_lit_inv h2
 obtain ⟨m, rfl⟩ := Int.eq_ofNat_of_zero_le h0
 simp only [Int.toNat_natCast] at hbytes hmx ⊢
 have hp' : σ r = .row e size xs.length := hp (r, .row e size xs.length) (by simp)
 obtain ⟨cs, he⟩ := execOp_builtin (P := P) (a := a) ho w
 have hE := hS.ents r
 rw [hp'] at hE
 obtain ⟨hl, u, cells0, hu, hlen, _⟩ := hE
 have hxu : a.eval x = u := by
  generalize hv : a.eval x = v at h1
  cases h1 with
  | slice _ _ vs A c size' hvl hc hm hvr hvs hcell hown' =>
   obtain ⟨u', hu', _, h3⟩ := hown' r rfl
   rw [hu] at hu'
   cases hu'
   exact h3 hlen.symm
 obtain ⟨i0, zv0, hi0, hzv0, hrz0⟩ := ztree_sound hz g
 have hbi : i0.bytes = bytes := by unfold bytesIs at hb; rw [hi0] at hb; simpa using hb
 have hmb : m * i0.bytes ≤ 140737488355328 := by
  rw [hbi]
  exact Nat.le_trans (Nat.mul_le_mul_right _ (by omega)) hbytes
 have hzsz : zv0.cells.size = size := by rw [hrz0.size, hzs]
 have hall : ∀ v ∈ List.replicate m zv0, v.cells.size = size := fun v hv => by rw [List.eq_of_mem_replicate hv]; exact hzsz
 have hfl : flat (List.replicate m zv0) = (Builtin.zeroCells zv0.cells m).toList := by
  rw [← flat_replicate m zv0 size hzsz hpos]
  simp [Builtin.zeroCells, hzsz]
 have hone : ∀ q ∈ zv0.cells.toList, q.oneCell' = true := hrz0.cell_ok hzc
 have hl2 : (List.replicate m z).length = m := by simp
 have key := append_gen (P := P) (R := fun u' w' => (Builtin.append_ #[t, tn] o.type #[u, .int k (m : Int)]).run P w = .ok u' w') (ys := List.replicate m z) (us := List.replicate m zv0) hs hz hzs hS hp' hu rfl (.inr (by rw [← hxu]; exact h1)) hsx (by simp) (rep_replicate hrz0 m) hall
  (fun hm0 ⟨A', c', hu', hc'⟩ => by
   rw [hl2] at hm0
   subst hm0 hu'
   cases A' <;> simp [Builtin.append_, run_underlying (sliceTy_sound ht), run_underlying (intTy_sound htn), asInt, asIntOf, sizeOf, typeInfo, hi0, IntKind.wrap_i64, hc', storeCells])
  (fun i zv cells hi hzv hsi hzc' hrz hown hpos' => by
   rw [hi0] at hi; cases hi
   rw [hzv0] at hzv; cases hzv
   rw [hl2] at hpos' ⊢
   rw [hfl]
   rcases hown.2 with ⟨rfl, hk0⟩ | ⟨g0, cap, cur, fz, rfl, hbg, hg, hfz, hnc, hcm, hcs, htake⟩
   ·have hcl : cells = [] := List.eq_nil_of_length_eq_zero (by rw [hown.1, hk0]; simp)
    subst hcl
    have hr := Go.Lib.run_append_nil_zeros (P := P) w t tn o.type e i0 zv0 k kn (sliceTy_sound ht) (intTy_sound htn) hi0 hzv0 m hpos' (by omega) (by omega) (by omega)
    have hge := grownCap_ge w m 0 e
    have hcm := grownCap_le_maxLen w m 0 e (by unfold maxLen; omega)
    rw [hk0, Nat.zero_add]
    refine ⟨_, _, hr, ⟨by simp [size_zeroCells, hzc'], .inr ⟨w.heap.size, _, _, (0, 0), rfl, hS.below.size, heap_alloc_new w.drew _, noFz_zero _, hge, hcm, ?_, ?_⟩⟩, rfl, rfl, rfl, rfl, by simp, .inr ⟨hpos', rfl, fun j hj => heap_alloc_old w.drew _ j hj⟩⟩
    ·simp only [Array.size_append, size_zeroCells, hzc', ← Nat.add_mul]
     congr 1; omega
    ·have : (Builtin.zeroCells zv0.cells m).toList.length = m * i0.size := by rw [Array.length_toList, size_zeroCells, hzc']
     rw [← this]
     simp
   ·by_cases hroom : xs.length + m ≤ cap
    ·have hfit : xs.length * i0.size + m * i0.size ≤ cur.size := by rw [hcs, ← Nat.add_mul]; exact Nat.mul_le_mul_right _ hroom
     have hr := run_append_zeros_room (P := P) (k := k) (ty := o.type) (sliceTy_sound ht) (intTy_sound htn) hi0 hzv0 hzc' (by omega) hg hfz hpos' hone hmb (by omega) hroom hfit
     have hzl : (Builtin.zeroCells zv0.cells m).toList.length = m * i0.size := by rw [Array.length_toList, size_zeroCells, hzc']
     have hlenA : (cells ++ (Builtin.zeroCells zv0.cells m).toList).length = (xs.length + m) * i0.size := by rw [List.length_append, hown.1, hzl, Nat.add_mul]
     have hcz : (cur.toList.take (xs.length * i0.size) ++ (Builtin.zeroCells zv0.cells m).toList ++ cur.toList.drop (xs.length * i0.size + (Builtin.zeroCells zv0.cells m).toList.length)).toArray.size = cur.size := by
      simp only [List.size_toArray, List.length_append, List.length_take, List.length_drop, Array.length_toList] at hzl ⊢
      omega
     refine ⟨_, _, hr, ⟨hlenA, .inr ⟨g0, cap, _, fz, rfl, hbg, setRow_heap w g0 cur _ e _ hg, by rw [hcz]; exact hfz, hroom, hcm, by rw [hcz]; exact hcs, ?_⟩⟩, rfl, rfl, rfl, rfl, by simp [World.setRow], .inl ⟨hpos', rfl, fun j hj _ => setRow_other w g0 j _ (fun e => hj (by simp [Value.ownBlock, e]))⟩⟩
     rw [htake, ← hlenA]
     exact List.take_left
    ·have hold : (Builtin.firstCells i0.size xs.length (.slice (some ⟨g0, 0, none⟩) xs.length cap)).run P w.drew = .ok cells.toArray w.drew :=
      run_firstCells_some (P := P) w.drew i0.size xs.length ⟨g0, 0, none⟩ xs.length cap cells hown.1 fun j q hq => by rw [Addr.add_lit, Nat.zero_add]; exact hown.cells (g := g0) rfl j q hq
     have hr := Go.Lib.run_append_grow_zeros (P := P) w t tn o.type e i0 zv0 k kn (sliceTy_sound ht) (intTy_sound htn) hi0 hzv0 (some ⟨g0, 0, none⟩) xs.length cap cells hold m hpos' (by omega) (by omega) (by omega) (by omega) (growslice_fits (by omega) (by rw [hbi]; exact hbytes))
     have hge := grownCap_ge w (xs.length + m) cap e
     have hcm' := grownCap_le_maxLen w (xs.length + m) cap e (by unfold maxLen; omega)
     have hzl : (Builtin.zeroCells zv0.cells m).toList.length = m * i0.size := by rw [Array.length_toList, size_zeroCells, hzc']
     have hlenA : (cells ++ (Builtin.zeroCells zv0.cells m).toList).length = (xs.length + m) * i0.size := by rw [List.length_append, hown.1, hzl, Nat.add_mul]
     refine ⟨_, _, hr, ⟨hlenA, .inr ⟨w.heap.size, _, _, (0, 0), rfl, hS.below.size, heap_alloc_new w.drew _, noFz_zero _, hge, hcm', ?_, ?_⟩⟩, rfl, rfl, rfl, rfl, by simp, .inr ⟨hpos', rfl, fun j hj => heap_alloc_old w.drew _ j hj⟩⟩
     ·simp only [Array.size_append, List.size_toArray, size_zeroCells, hzc', hown.1, ← Nat.add_mul]
      congr 1; omega
     ·simp only [Array.toList_append, List.append_assoc]
      rw [← List.append_assoc, ← hlenA]
      exact List.take_left)
  (fun i zv A0 cells hi hzv hsi hzc' hrz hu' hcl hcells hpos' => by
   rw [hi0] at hi; cases hi
   rw [hzv0] at hzv; cases hzv
   rw [hl2] at hpos' ⊢
   rw [hfl]
   subst hu'
   have hold : (Builtin.firstCells i0.size xs.length (.slice (some A0) xs.length xs.length)).run P w.drew = .ok cells.toArray w.drew :=
    run_firstCells_some (P := P) w.drew i0.size xs.length A0 xs.length xs.length cells hcl (fun j q hq => hcells j q hq)
   have hr := Go.Lib.run_append_grow_zeros (P := P) w t tn o.type e i0 zv0 k kn (sliceTy_sound ht) (intTy_sound htn) hi0 hzv0 (some A0) xs.length xs.length cells hold m hpos' (by omega) (by omega) (by omega) (by omega) (growslice_fits (by omega) (by rw [hbi]; exact hbytes))
   have hge := grownCap_ge w (xs.length + m) xs.length e
   have hcm' := grownCap_le_maxLen w (xs.length + m) xs.length e (by unfold maxLen; omega)
   have hzl : (Builtin.zeroCells zv0.cells m).toList.length = m * i0.size := by rw [Array.length_toList, size_zeroCells, hzc']
   have hlenA : (cells ++ (Builtin.zeroCells zv0.cells m).toList).length = (xs.length + m) * i0.size := by rw [List.length_append, hcl, hzl, Nat.add_mul]
   refine ⟨_, _, hr, ⟨hlenA, .inr ⟨w.heap.size, _, _, (0, 0), rfl, hS.below.size, heap_alloc_new w.drew _, noFz_zero _, hge, hcm', ?_, ?_⟩⟩, rfl, rfl, rfl, rfl, by simp, ⟨hpos', rfl, fun j hj => heap_alloc_old w.drew _ j hj⟩⟩
   ·simp only [Array.size_append, List.size_toArray, size_zeroCells, hzc', hcl, ← Nat.add_mul]
    congr 1; omega
   ·simp only [Array.toList_append, List.append_assoc]
    rw [← List.append_assoc, ← hlenA]
    exact List.take_left)
 obtain ⟨u', w', g', hrun, hle, hS', hrep⟩ := key
 rw [hl2] at hS'
 unfold runsTo
 have hexec : (execOp a.eval o).run P w = .ok (.value u') w' := by
  rw [he]
  simp [builtin, hxu, e2, hrun]
 rw [hexec]
 exact ⟨g', hle, hS', hrep⟩
end

def bytesOf : List AV → Option (List UInt8)
 | [] => some []
 | .lit (.int .u8 n) :: r => if 0 ≤ n ∧ n < 256 then (bytesOf r).map (UInt8.ofNat n.toNat :: ·) else none
 | _ :: _ => none
theorem bytesOf_sound : ∀ {xs : List AV} {bs : List UInt8}, bytesOf xs = some bs → xs = bs.map byteAV
 | [], bs, h => by simp [bytesOf] at h; subst h; rfl
 | .lit (.int .u8 n) :: r, bs, h => by
  simp only [bytesOf] at h
  split at h
  ·rename_i hn
   cases hr : bytesOf r with
   | none => rw [hr] at h; cases h
   | some q =>
    rw [hr] at h
    cases h
    rw [bytesOf_sound hr]
    simp only [List.map_cons, byteAV]
    congr 3
    rw [UInt8.toNat_ofNat']
    omega
  ·cases h
 | .any :: _, _, h => by simp [bytesOf] at h
 | .nils :: _, _, h => by simp [bytesOf] at h
 | .slice _ _ :: _, _, h => by simp [bytesOf] at h
 | .agg _ :: _, _, h => by simp [bytesOf] at h
 | .ptr _ _ _ :: _, _, h => by simp [bytesOf] at h
 | .view _ :: _, _, h => by simp [bytesOf] at h
 | .fn _ _ :: _, _, h => by simp [bytesOf] at h
 | .tup _ :: _, _, h => by simp [bytesOf] at h
 | .lit (.bool _) :: _, _, h => by simp [bytesOf] at h
 | .lit (.float _ _) :: _, _, h => by simp [bytesOf] at h
 | .lit (.complex _ _ _) :: _, _, h => by simp [bytesOf] at h
 | .lit (.string _) :: _, _, h => by simp [bytesOf] at h
 | .lit (.pointer _) :: _, _, h => by simp [bytesOf] at h
 | .lit (.slice _ _ _) :: _, _, h => by simp [bytesOf] at h
 | .lit (.map _) :: _, _, h => by simp [bytesOf] at h
 | .lit (.chan _) :: _, _, h => by simp [bytesOf] at h
 | .lit (.func _ _ _) :: _, _, h => by simp [bytesOf] at h
 | .lit .nilFunc :: _, _, h => by simp [bytesOf] at h
 | .lit (.iface _ _) :: _, _, h => by simp [bytesOf] at h
 | .lit .nilIface :: _, _, h => by simp [bytesOf] at h
 | .lit (.agg _) :: _, _, h => by simp [bytesOf] at h
 | .lit (.tuple _) :: _, _, h => by simp [bytesOf] at h
 | .lit (.int .u16 _) :: _, _, h => by simp [bytesOf] at h
 | .lit (.int .u32 _) :: _, _, h => by simp [bytesOf] at h
 | .lit (.int .u64 _) :: _, _, h => by simp [bytesOf] at h
 | .lit (.int .i8 _) :: _, _, h => by simp [bytesOf] at h
 | .lit (.int .i16 _) :: _, _, h => by simp [bytesOf] at h
 | .lit (.int .i32 _) :: _, _, h => by simp [bytesOf] at h
 | .lit (.int .i64 _) :: _, _, h => by simp [bytesOf] at h
def sliceInfo (P : Program) (t : TypeId) : Option (TypeId × Nat × Nat × AV) :=
 match sliceTy P t with
 | some e => match P.info? e, ztree P e with
  | some i, some z => if z.sz == i.size && (0 < i.size : Bool) then some (e, i.size, i.bytes, z) else none
  | _, _ => none
 | none => none
theorem sliceInfo_sound {P : Program} {t e : TypeId} {size bytes : Nat} {z : AV} (h : sliceInfo P t = some (e, size, bytes, z)) :
  sliceTy P t = some e ∧ sizeIs P e size = true ∧ bytesIs P e bytes = true ∧ ztree P e = some z ∧ z.sz = size ∧ 0 < size := by
 unfold sliceInfo at h
 split at h
 ·rename_i e' he
  split at h
  ·rename_i i z' hi hz
   split at h
   ·rename_i hc
    cases h
    simp at hc
    exact ⟨he, by simp [sizeIs, hi], by simp [bytesIs, hi], hz, hc.1, hc.2⟩
   ·cases h
  ·cases h
 ·cases h
def tyInfo (P : Program) (t : TypeId) : Option (Bool × Nat) :=
 match P.underlying t, P.info? t with
 | some d, some i => some (aggDesc d, i.size)
 | _, _ => none
theorem tyInfo_sound {P : Program} {t : TypeId} {a : Bool} {n : Nat} (h : tyInfo P t = some (a, n)) : tyIs P t a n = true ∧ sizeIs P t n = true := by
 unfold tyInfo at h
 split at h
 ·rename_i d i hd hi
  cases h
  simp [tyIs, sizeIs, hd, hi]
 ·cases h
def arrInfo (P : Program) (t : TypeId) : Option (Nat × TypeId × Nat) :=
 match arrTy P t with
 | some (n, e) => match P.info? e with
  | some i => some (n, e, i.size)
  | none => none
 | none => none
theorem arrInfo_sound {P : Program} {t e : TypeId} {n size : Nat} (h : arrInfo P t = some (n, e, size)) : arrTy P t = some (n, e) ∧ sizeIs P e size = true := by
 unfold arrInfo at h
 split at h
 ·rename_i n' e' he
  split at h
  ·rename_i i hi
   cases h
   exact ⟨he, by simp [sizeIs, hi]⟩
  ·cases h
 ·cases h
def evBox (σ : Nat → Ent) (i : Nat) : Option (TypeId × AV × Bool) :=
 match σ i with
 | .box t x => some (t, x, true)
 | .fbox t x => some (t, x, false)
 | _ => none
def evPick (s : Slots) (c x y : Operand) : Option Step :=
 match aeval s c with
 | .lit (.bool t) => some ⟨[], pickAV t (aeval s x) (aeval s y), []⟩
 | _ => none
def evExtract (s : Slots) (x : Operand) (i : Nat) : Option Step :=
 match aeval s x with
 | .tup xs => match xs[i]? with
  | some y => some ⟨[], y, []⟩
  | none => none
 | _ => none
def evNilCheck (s : Slots) (x : Operand) : Option Step :=
 match aeval s x with
 | .ptr i p q => some ⟨[], .ptr i p q, []⟩
 | .view y => some ⟨[], .view y, []⟩
 | .fn f xs => some ⟨[], .fn f xs, []⟩
 | _ => none
def evMakeFunc (s : Slots) (fn : Fn) (first : List Operand) (cap : Array Operand) : Option Step :=
 match fn, first with
 | .func f, [] => some ⟨[], .fn f (cap.toList.map (aeval s)), []⟩
 | _, _ => none
def evBin (P : Program) (op : BinOp) (t : TypeId) (u v : AV) : Option Step :=
 match u, v with
 | .lit u, .lit v => match litBin P op t u v with
  | some r => some ⟨[], .lit r, []⟩
  | none => match evNilEq P op t (.lit u) (.lit v) with
   | some b => some ⟨[], .lit (.bool b), []⟩
   | none => none
 | .agg xs, .agg ys => match evEqA P op t (.agg xs) (.agg ys) with
  | some b => some ⟨[], .lit (.bool b), []⟩
  | none => none
 | u, v => match evNilEq P op t u v with
  | some b => some ⟨[], .lit (.bool b), []⟩
  | none => none
def evUn (op : UnOp) (u : AV) : Option Step :=
 match u with
 | .lit u => match litUn op u with
  | some r => some ⟨[], .lit r, []⟩
  | none => none
 | _ => none
def evConvert (P : Program) (src dst : TypeId) (id : Nat) (u : AV) : Option Step :=
 match u with
 | .lit (.int _ n) => match intTy P src, intTy P dst with
  | some _, some k' => some ⟨[], .lit (.int k' (k'.wrap n)), []⟩
  | _, _ => none
 | .lit (.string b) => if strTy P src && strTy P dst then some ⟨[], .lit (.string b), []⟩ else match sliceTy P dst with
  | some e => if strTy P src = true ∧ byteTy P e = true ∧ sizeIs P e 1 = true ∧ b.size ≤ 9223372036854775807 then some ⟨[], .slice (some id) (b.data.toList.map byteAV), [(id, .row e 1 b.size)]⟩ else none
  | none => none
 | .nils => match sliceTy P src with
  | some e => if byteTy P e && strTy P dst then some ⟨[], .lit (strV []), []⟩ else none
  | none => none
 | .slice _ xs => match sliceTy P src, bytesOf xs with
  | some e, some bs => if byteTy P e && strTy P dst then some ⟨[], .lit (strV bs), []⟩ else none
  | _, _ => none
 | _ => none
def evIndex (P : Program) (t : TypeId) (u v : AV) : Option Step :=
 match u, v with
 | .lit (.string b), .lit (.int _ n) => if strTy P t = true ∧ 0 ≤ n then match b.data.toList[n.toNat]? with
  | some c => some ⟨[], .lit (.int .u8 c.toNat), []⟩
  | none => none
  else none
 | _, _ => none
def evMrow (σ : Nat → Ent) (i ver : Nat) : Option (TypeId × Nat × List AV) :=
 match σ i with
 | .mrow v e size xs => if v = ver then some (e, size, xs) else none
 | _ => none
def evFieldAddr (P : Program) (σ : Nat → Ent) (t : TypeId) (u : AV) (f : Nat) : Option Step :=
 match u, fieldOff P t f with
 | .ptr i p q, some k => some ⟨[], .ptr i (p ++ [f]) (q + k), []⟩
 | .mp i ver p q, some k => match evMrow σ i ver with
  | some (e, size, xs) => some ⟨[(i, .mrow ver e size xs)], .mp i ver (p ++ [f]) (q + k), []⟩
  | none => none
 | .view (.agg xs), some k => match xs[f]? with
  | some y => if AV.szl (xs.take f) = k then some ⟨[], .view y, []⟩ else none
  | none => none
 | _, _ => none
def evLoad (P : Program) (σ : Nat → Ent) (t : TypeId) (u : AV) : Option Step :=
 match u with
 | .ptr i p q => match evBox σ i with
  | some (_, c, _) => match c.get p with
   | some y => if c.offs p = q ∧ tyInfo P t = some (y.isAgg, y.sz) then some ⟨[(i, σ i)], y, []⟩ else none
   | none => none
  | none => none
 | .view y => if tyInfo P t = some (y.isAgg, y.sz) then some ⟨[], y, []⟩ else none
 | .mp i ver p q => match evMrow σ i ver with
  | some (e, size, xs) => match (AV.agg xs).get p with
   | some y => if (AV.agg xs).offs p = q ∧ tyInfo P t = some (y.isAgg, y.sz) then some ⟨[(i, .mrow ver e size xs)], y, []⟩ else none
   | none => none
  | none => none
 | _ => none
def evStore (P : Program) (σ : Nat → Ent) (t : TypeId) (u z : AV) : Option Step :=
 match u with
 | .ptr i p q => match evBox σ i with
  | some (bt, c, true) => match c.get p, tyInfo P t with
   | some old, some (_, n) => if c.offs p = q ∧ old.sz = z.sz ∧ n = z.sz ∧ z.cell = true then some ⟨[(i, .box bt c)], .tup [], [(i, .box bt (c.put p z))]⟩ else none
   | _, _ => none
  | _ => none
 | .mp i ver (j :: p) q => match evMrow σ i ver with
  | some (e, size, xs) => match (AV.agg xs).get (j :: p), tyInfo P t, (AV.agg xs).put (j :: p) z with
   | some old, some (_, n), .agg xs' => if (AV.agg xs).offs (j :: p) = q ∧ old.sz = z.sz ∧ n = z.sz ∧ z.cell = true then some ⟨[(i, .mrow ver e size xs)], .tup [], [(i, .mrow ver e size xs')]⟩ else none
   | _, _, _ => none
  | none => none
 | _ => none
def evAlloc (P : Program) (t : TypeId) (id : Nat) : Option Step :=
 match ztree P t with
 | some z => some ⟨[], .ptr id [] 0, [(id, .box t z)]⟩
 | none => none
def evIndexAddr (P : Program) (σ : Nat → Ent) (t : TypeId) (u v : AV) : Option Step :=
 match u, v with
 | .clip xs, .lit (.int _ n) => if 0 ≤ n then match xs[n.toNat]?, sliceInfo P t with
  | some y, some (_, size, _, _) => if y.sz = size then some ⟨[], .view y, []⟩ else none
  | _, _ => none
  else none
 | .ms r ver size lo len, .lit (.int _ n) => match evMrow σ r ver, sliceInfo P t with
  | some (e, size', xs), some (e', size'', _, _) => if 0 ≤ n ∧ n.toNat < len ∧ size' = size ∧ size'' = size ∧ e' = e then some ⟨[(r, .mrow ver e size xs)], .mp r ver [lo + n.toNat] ((lo + n.toNat) * size), []⟩ else none
  | _, _ => none
 | .bs r p lo q len, .lit (.int _ n) => match sliceInfo P t with
  | some (_, size, _, _) => if 0 ≤ n ∧ n.toNat < len then some ⟨[], .ptr r (p ++ [lo + n.toNat]) (q + n.toNat * size), []⟩ else none
  | none => none
 | .mp j ver p q, .lit (.int _ n) => match evMrow σ j ver, arrInfo P t with
  | some (e, size', xs), some (len, _, size) => if 0 ≤ n ∧ n.toNat < len then some ⟨[(j, .mrow ver e size' xs)], .mp j ver (p ++ [n.toNat]) (q + n.toNat * size), []⟩ else none
  | _, _ => none
 | .slice _ xs, .lit (.int _ n) => if 0 ≤ n then match xs[n.toNat]?, sliceInfo P t with
  | some y, some (_, size, _, _) => if y.sz = size then some ⟨[], .view y, []⟩ else none
  | _, _ => none
  else none
 | .ptr j p q, .lit (.int _ n) => match arrInfo P t with
  | some (len, _, size) => if 0 ≤ n ∧ n.toNat < len then some ⟨[], .ptr j (p ++ [n.toNat]) (q + n.toNat * size), []⟩ else none
  | none => none
 | .view (.agg xs), .lit (.int _ n) => match arrInfo P t, xs[n.toNat]? with
  | some (len, _, size), some y => if 0 ≤ n ∧ n.toNat < len ∧ AV.szl (xs.take n.toNat) = n.toNat * size then some ⟨[], .view y, []⟩ else none
  | _, _ => none
 | _, _ => none
def evBuild (P : Program) (t : TypeId) (parts : List (Nat × AV)) : Option Step :=
 match ztree P t, splaces P t, arrInfo P t with
 | some (.agg zs), some pl, _ => match fillA (fun (i : Nat) => pl[i]?) zs parts with
  | some ys => some ⟨[], .agg ys, []⟩
  | none => none
 | some (.agg zs), none, some (_, _, size) => match fillA (fun i => some (i * size, size)) zs parts with
  | some ys => some ⟨[], .agg ys, []⟩
  | none => none
 | _, _, _ => none
def evBuildSlice (P : Program) (t : TypeId) (len id : Nat) (parts : List (Nat × AV)) : Option Step :=
 match sliceInfo P t with
 | some (e, size, _, z) => match fillA (fun i => some (i * size, size)) (List.replicate len z) parts with
  | some ys => if len * size ≤ 16777216 ∧ ys.length = len ∧ ys.all (fun x => x.sz == size) = true then some ⟨[], .slice (some id) ys, [(id, .row e size len)]⟩ else none
  | none => none
 | none => none
def evSliceBox (P : Program) (s : Slots) (σ : Nat → Ent) (t : TypeId) (i : Nat) (p : List Nat) (q : Nat) (lo hi : Option Operand) : Option Step :=
 match evBox σ i, ptrArr P t with
 | some (bt, c, b), some (n, _, size) => match c.get p, bnd s 0 lo, bnd s n hi with
  | some (.agg ys), some l, some h => if c.offs p = q ∧ ys.length = n ∧ ys.all (fun y => y.sz == size) = true ∧ l ≤ h ∧ h ≤ n ∧ n ≤ 9223372036854775807 then
    some ⟨[(i, if !b then .fbox bt c else .box bt c)], .slice none ((ys.take h).drop l), if !b then [] else [(i, .fbox bt c)]⟩ else none
  | _, _, _ => none
 | _, _ => none
def evSlice (P : Program) (s : Slots) (σ : Nat → Ent) (t : TypeId) (u : AV) (lo hi mx : Option Operand) : Option Step :=
 match mx, u with
 | none, .slice _ xs => match sliceInfo P t, bnd s 0 lo, bnd s xs.length hi with
  | some (_, size, _, _), some l, some h => if l ≤ h ∧ h ≤ xs.length ∧ xs.all (fun y => y.sz == size) = true then some ⟨[], .slice none ((xs.take h).drop l), []⟩ else none
  | _, _, _ => none
 | none, .clip xs => match sliceInfo P t, bnd s 0 lo, bnd s xs.length hi with
  | some (_, size, _, _), some l, some h => if l ≤ h ∧ h ≤ xs.length ∧ xs.all (fun y => y.sz == size) = true then some ⟨[], .slice none ((xs.take h).drop l), []⟩ else none
  | _, _, _ => none
 | none, .ms r ver size l0 len => match evMrow σ r ver, sliceInfo P t, bnd s 0 lo, bnd s len hi with
  | some (e, size', xs), some (e', size'', _, _), some l, some h => if l ≤ h ∧ h ≤ len ∧ size' = size ∧ size'' = size ∧ e' = e then some ⟨[(r, .mrow ver e size xs)], .ms r ver size (l0 + l) (h - l), []⟩ else none
  | _, _, _, _ => none
 | none, .nils => match sliceInfo P t, bnd s 0 lo, bnd s 0 hi with
  | some _, some 0, some 0 => some ⟨[], .nils, []⟩
  | _, _, _ => none
 | none, .lit (.string b) => match bnd s 0 lo, bnd s b.size hi with
  | some l, some h => if strTy P t = true ∧ l ≤ h ∧ h ≤ b.size then some ⟨[], .lit (.string (b.extract l h)), []⟩ else none
  | _, _ => none
 | none, .ptr i p q => evSliceBox P s σ t i p q lo hi
 | none, .view (.agg ys) => match ptrArr P t with
  | some (n, _, size) => match bnd s 0 lo, bnd s n hi with
   | some l, some h => if ys.length = n ∧ ys.all (fun y => y.sz == size) = true ∧ l ≤ h ∧ h ≤ n ∧ n ≤ 9223372036854775807 then some ⟨[], .slice none ((ys.take h).drop l), []⟩ else none
   | _, _ => none
  | none => none
 | some m, .slice _ xs => match sliceInfo P t, bnd s 0 lo, bnd s 0 hi, bnd s 0 (some m) with
  | some (_, size, _, _), some l, some h, some h' => if hi.isSome = true ∧ h' = h ∧ l ≤ h ∧ h ≤ xs.length ∧ xs.all (fun y => y.sz == size) = true then some ⟨[], .clip ((xs.take h).drop l), []⟩ else none
  | _, _, _, _ => none
 | some m, .clip xs => match sliceInfo P t, bnd s 0 lo, bnd s 0 hi, bnd s 0 (some m) with
  | some (_, size, _, _), some l, some h, some h' => if hi.isSome = true ∧ h' = h ∧ l ≤ h ∧ h ≤ xs.length ∧ xs.all (fun y => y.sz == size) = true then some ⟨[], .clip ((xs.take h).drop l), []⟩ else none
  | _, _, _, _ => none
 | some m, .nils => match sliceInfo P t, bnd s 0 lo, bnd s 0 hi, bnd s 0 (some m) with
  | some _, some 0, some 0, some 0 => if hi.isSome = true then some ⟨[], .clip [], []⟩ else none
  | _, _, _, _ => none
 | _, _ => none
def evMakeSlice (P : Program) (t : TypeId) (id : Nat) (u v : AV) : Option Step :=
 match sliceInfo P t, u, v with
 | some (e, size, bytes, z), .lit (.int _ n), .lit (.int _ c) => if 0 ≤ n ∧ n ≤ c ∧ c ≤ 140737488355328 ∧ bytes * c ≤ 140737488355328 then some ⟨[], .slice (some id) (List.replicate n.toNat z), [(id, .row e size n.toNat)]⟩ else none
 | _, _, _ => none
def evLen (P : Program) (t : TypeId) (u : AV) : Option Step :=
 match u with
 | .slice _ xs => if (sliceInfo P t).isSome then some ⟨[], .lit (.int .i64 xs.length), []⟩ else none
 | .nils => if (sliceInfo P t).isSome then some ⟨[], .lit (.int .i64 0), []⟩ else none
 | .clip xs => if (sliceInfo P t).isSome then some ⟨[], .lit (.int .i64 xs.length), []⟩ else none
 | .ms _ _ _ _ len => if (sliceInfo P t).isSome then some ⟨[], .lit (.int .i64 len), []⟩ else none
 | .bs _ _ _ _ len => if (sliceInfo P t).isSome then some ⟨[], .lit (.int .i64 len), []⟩ else none
 | .lit (.string b) => if strTy P t then some ⟨[], .lit (.int .i64 b.size), []⟩ else none
 | _ => none
def evMin (u v : AV) : Option Step :=
 match u, v with
 | .lit (.int k m), .lit (.int _ n) => some ⟨[], .lit (.int k (if n < m then n else m)), []⟩
 | _, _ => none
def evMax (u v : AV) : Option Step :=
 match u, v with
 | .lit (.int k m), .lit (.int _ n) => some ⟨[], .lit (.int k (if n > m then n else m)), []⟩
 | _, _ => none
def evAppend (P : Program) (σ : Nat → Ent) (id : Nat) (t : TypeId) (u v : AV) : Option Step :=
 match sliceInfo P t, u, v.elems with
 | some (e, size, bytes, _), .slice (some r) xs, some ys => match σ r with
  | .row e' size' n => if e' = e ∧ size' = size ∧ n = xs.length ∧ xs.all (fun x => x.sz == size) = true ∧ ys.all (fun x => x.sz == size && x.cell) = true ∧ (xs.length + ys.length) * bytes ≤ 140737488355328 ∧ xs.length + ys.length ≤ 140737488355328 then
   some ⟨[(r, .row e size xs.length)], .slice (some r) (xs ++ ys), [(r, .row e size (xs.length + ys.length))]⟩ else none
  | _ => none
 | some (e, size, bytes, _), .nils, some ys => if ys.all (fun x => x.sz == size && x.cell) = true ∧ ys.length * bytes ≤ 140737488355328 ∧ ys.length ≤ 140737488355328 then
   some ⟨[], .slice (some id) ys, [(id, .row e size ys.length)]⟩ else none
 | some (e, size, bytes, _), .clip xs, some ys => if xs.all (fun x => x.sz == size) = true ∧ ys.all (fun x => x.sz == size && x.cell) = true ∧ (xs.length + ys.length) * bytes ≤ 140737488355328 ∧ xs.length + ys.length ≤ 140737488355328 then
   some ⟨[], .slice (some id) (xs ++ ys), [(id, .row e size (xs.length + ys.length))]⟩ else none
 | some (e, size, bytes, _), .ms r ver size' lo k, some ys => match evMrow σ r ver with
  | some (e', size'', xs) => if e' = e ∧ size' = size ∧ size'' = size ∧ lo = 0 ∧ k ≤ xs.length ∧ ys.all (fun x => x.sz == size && x.cell) = true ∧ (k + ys.length) * bytes ≤ 140737488355328 ∧ k + ys.length ≤ 140737488355328 then
   some ⟨[(r, .mrow ver e size xs)], .ms r (ver + 1) size 0 (k + ys.length), [(r, .mrow (ver + 1) e size (xs.take k ++ ys))]⟩ else none
  | none => none
 | _, _, _ => none
def evAppendZ (P : Program) (σ : Nat → Ent) (t tn : TypeId) (u v : AV) : Option Step :=
 match sliceInfo P t, intTy P tn, u, v with
 | some (e, size, bytes, z), some _, .slice (some r) xs, .lit (.int _ m) => match σ r with
  | .row e' size' n => if e' = e ∧ size' = size ∧ n = xs.length ∧ 0 ≤ m ∧ z.cell = true ∧ xs.all (fun x => x.sz == size) = true ∧ (xs.length + m.toNat) * bytes ≤ 140737488355328 ∧ xs.length + m.toNat ≤ 140737488355328 then
   some ⟨[(r, .row e size xs.length)], .slice (some r) (xs ++ List.replicate m.toNat z), [(r, .row e size (xs.length + m.toNat))]⟩ else none
  | _ => none
 | _, _, _, _ => none
def evCopy (P : Program) (σ : Nat → Ent) (t : TypeId) (u v : AV) : Option Step :=
 match sliceInfo P t, u, copySrc v with
 | some (e, size, _, _), .ms r ver size' lo len, some ys => match evMrow σ r ver with
  | some (e', size'', xs) => if e' = e ∧ size' = size ∧ size'' = size ∧ lo + len ≤ xs.length ∧ ys.all (fun x => x.sz == size && x.cell) = true then
   some ⟨[(r, .mrow ver e size xs)], .lit (.int .i64 (Nat.min ys.length len : Nat)), [(r, .mrow ver e size (xs.take lo ++ ys.take (Nat.min ys.length len) ++ xs.drop (lo + Nat.min ys.length len)))]⟩ else none
  | none => none
 | some (_, size, _, _), .bs r p lo q len, some ys => match evBox σ r with
  | some (bt, c, true) => match c.get p with
   | some (.agg xs) => if c.offs p + lo * size = q ∧ xs.all (fun x => x.sz == size) = true ∧ lo + len ≤ xs.length ∧ ys.all (fun x => x.sz == size && x.cell) = true then
    some ⟨[(r, .box bt c)], .lit (.int .i64 (Nat.min ys.length len : Nat)), [(r, .box bt (c.put p (.agg (xs.take lo ++ ys.take (Nat.min ys.length len) ++ xs.drop (lo + Nat.min ys.length len)))))]⟩ else none
   | _ => none
  | _ => none
 | _, _, _ => none
def evClear (P : Program) (σ : Nat → Ent) (t : TypeId) (u : AV) : Option Step :=
 match sliceInfo P t, u with
 | some (e, size, _, z), .ms r ver size' lo len => match evMrow σ r ver with
  | some (e', size'', xs) => if e' = e ∧ size' = size ∧ size'' = size ∧ lo + len ≤ xs.length ∧ z.cell = true then
   some ⟨[(r, .mrow ver e size xs)], .tup [], [(r, .mrow ver e size (xs.take lo ++ (List.replicate len z).take len ++ xs.drop (lo + len)))]⟩ else none
  | none => none
 | _, _ => none
def evBuiltin (P : Program) (s : Slots) (σ : Nat → Ent) (id : Nat) (b : Builtin) (args : List Operand) (ts : List TypeId) : Option Step :=
 match b, args, ts with
 | .len, [x], [t] => evLen P t (aeval s x)
 | .min, [x, y], _ => evMin (aeval s x) (aeval s y)
 | .max, [x, y], _ => evMax (aeval s x) (aeval s y)
 | .append, [x, y], [t, t'] => if t = t' then evAppend P σ id t (aeval s x) (aeval s y) else evAppendZ P σ t t' (aeval s x) (aeval s y)
 | .copy, [x, y], [t, _] => evCopy P σ t (aeval s x) (aeval s y)
 | .clear, [x], [t] => evClear P σ t (aeval s x)
 | _, _, _ => none
def evCall (P : Program) (s : Slots) (σ : Nat → Ent) (id : Nat) (c : Call) : Option Step :=
 match c.callee with
 | .builtin b => evBuiltin P s σ id b c.args.toList c.argTypes.toList
 | _ => none
def evalOp (P : Program) (op : Op) (s : Slots) (σ : Nat → Ent) (id : Nat) : Option Step :=
 match op with
 | .move x => some ⟨[], aeval s x, []⟩
 | .assign x => some ⟨[], aeval s x, []⟩
 | .pick c x y => evPick s c x y
 | .extract x i => evExtract s x i
 | .nilCheck x => evNilCheck s x
 | .makeFunc fn first cap => evMakeFunc s fn first.toList cap
 | .binOp op t x y _ => evBin P op t (aeval s x) (aeval s y)
 | .unOp op _ x => evUn op (aeval s x)
 | .convert src dst x => evConvert P src dst id (aeval s x)
 | .index t x i => evIndex P t (aeval s x) (aeval s i)
 | .fieldAddr t x f => evFieldAddr P σ t (aeval s x) f
 | .load t x => evLoad P σ t (aeval s x)
 | .store t x y => evStore P σ t (aeval s x) (aeval s y)
 | .box t x => some ⟨[], .ptr id [] 0, [(id, .box t (aeval s x))]⟩
 | .alloc t => evAlloc P t id
 | .indexAddr t x i => evIndexAddr P σ t (aeval s x) (aeval s i)
 | .build t parts => evBuild P t (parts.toList.map fun p => (p.1, aeval s p.2))
 | .buildSlice t len parts => evBuildSlice P t len id (parts.toList.map fun p => (p.1, aeval s p.2))
 | .slice t x lo hi mx => evSlice P s σ t (aeval s x) lo hi mx
 | .makeInterface t x => if P.concrete t then some ⟨[], .iface t (aeval s x), []⟩ else none
 | .typeAssert x _ t true => (assertT P t (aeval s x)).map fun v => ⟨[], v, []⟩
 | .makeSlice t x y => evMakeSlice P t id (aeval s x) (aeval s y)
 | .call c => evCall P s σ id c
 | _ => none
theorem evBox_sound {σ : Nat → Ent} {i : Nat} {t : TypeId} {c : AV} {b : Bool} (h : evBox σ i = some (t, c, b)) : (b = true ∧ σ i = .box t c) ∨ (b = false ∧ σ i = .fbox t c) := by
 unfold evBox at h
 split at h
 ·rename_i h'; cases h; exact .inl ⟨rfl, h'⟩
 ·rename_i h'; cases h; exact .inr ⟨rfl, h'⟩
 ·cases h
theorem evMrow_sound {σ : Nat → Ent} {i ver : Nat} {e : TypeId} {size : Nat} {xs : List AV} (h : evMrow σ i ver = some (e, size, xs)) : σ i = .mrow ver e size xs := by
 unfold evMrow at h
 split at h
 ·rename_i h'
  split at h
  ·rename_i hv; subst hv; cases h; exact h'
  ·cases h
 ·cases h
def Gives (P : Program) (o : Oper) (s : Slots) (σ : Nat → Ent) (id : Nat) (st : Step) : Prop := OpHolds P o s id st.pre st.v st.post ∧ ∀ p ∈ st.pre, σ p.1 = p.2
theorem Gives.mk0 {P : Program} {o : Oper} {s : Slots} {σ : Nat → Ent} {id : Nat} {v : AV} {post : Foot} (h : OpHolds P o s id [] v post) : Gives P o s σ id ⟨[], v, post⟩ := ⟨h, fun p hp => (by cases hp)⟩
theorem toList_one {α : Type} {a : Array α} {x : α} (h : a.toList = [x]) : a = #[x] := by cases a; simp at h; simp [h]
theorem toList_two {α : Type} {a : Array α} {x y : α} (h : a.toList = [x, y]) : a = #[x, y] := by cases a; simp at h; simp [h]
theorem toList_nil {α : Type} {a : Array α} (h : a.toList = []) : a = #[] := by cases a; simp at h; simp [h]
section
variable {P : Program} {o : Oper} {s : Slots} {σ : Nat → Ent} {id : Nat} {st : Step}
theorem evAppend_sound {t : TypeId} {x y : Operand} (ho : o.op = .call { callee := .builtin .append, args := #[x, y], argTypes := #[t, t] }) (h : evAppend P σ id t (aeval s x) (aeval s y) = some st) : Gives P o s σ id st := by
 unfold evAppend at h
 split at h
 ·rename_i ht hx hy
  split at h
  ·rename_i hr
   split at h
   ·rename_i hc
    cases h
    obtain ⟨k1, k2, k3, k4, k5, k6⟩ := sliceInfo_sound ht
    obtain ⟨c1, c2, c3, c4, c5, c6, c7⟩ := hc
    subst c1; subst c2; subst c3
    exact ⟨holds_append_own ho k1 k2 k3 k4 k5 hx rfl hy c4 c5 c6 (by unfold maxLen; omega), fun p hp => by simp at hp; subst hp; exact hr⟩
   ·cases h
  ·cases h
 ·rename_i ht hx hy
  split at h
  ·rename_i hc
   cases h
   obtain ⟨k1, k2, k3, k4, k5, k6⟩ := sliceInfo_sound ht
   exact .mk0 (holds_append_nils ho k1 k2 k3 k4 k5 hx rfl hy hc.1 hc.2.1 (by unfold maxLen; omega))
  ·cases h
 ·rename_i ht hx hy
  split at h
  ·rename_i hc
   cases h
   obtain ⟨k1, k2, k3, k4, k5, k6⟩ := sliceInfo_sound ht
   exact .mk0 (holds_append_clip ho k1 k2 k3 k4 k5 hx rfl hy hc.1 hc.2.1 hc.2.2.1 (by unfold maxLen; omega))
  ·cases h
 ·rename_i ht hx hy
  split at h
  ·rename_i hm
   split at h
   ·rename_i hc
    cases h
    obtain ⟨k1, k2, k3, k4, k5, k6⟩ := sliceInfo_sound ht
    obtain ⟨c1, c2, c3, c4, c5, c6, c7, c8⟩ := hc
    subst c1; subst c2; subst c3; subst c4
    exact ⟨holds_append_ms ho k1 k2 k3 k4 k5 hx c5 rfl hy c6 c7 (by unfold maxLen; omega), fun p hp => by simp at hp; subst hp; exact evMrow_sound hm⟩
   ·cases h
  ·cases h
 ·cases h
theorem evAppendZ_sound {t tn : TypeId} {x y : Operand} (ho : o.op = .call { callee := .builtin .append, args := #[x, y], argTypes := #[t, tn] }) (h : evAppendZ P σ t tn (aeval s x) (aeval s y) = some st) : Gives P o s σ id st := by
 unfold evAppendZ at h
 split at h
 ·rename_i ht htn hx hy
  split at h
  ·rename_i hr
   split at h
   ·rename_i hc
    cases h
    obtain ⟨k1, k2, k3, k4, k5, k6⟩ := sliceInfo_sound ht
    obtain ⟨c1, c2, c3, c4, c5, c6, c7, c8⟩ := hc
    subst c1; subst c2; subst c3
    exact ⟨holds_append_zeros ho k1 htn k2 k3 k4 k5 c5 k6 hx hy c4 c6 c7 c8, fun p hp => by simp at hp; subst hp; exact hr⟩
   ·cases h
  ·cases h
 ·cases h
theorem evCopy_sound {t ts : TypeId} {x y : Operand} (ho : o.op = .call { callee := .builtin .copy, args := #[x, y], argTypes := #[t, ts] }) (h : evCopy P σ t (aeval s x) (aeval s y) = some st) : Gives P o s σ id st := by
 unfold evCopy at h
 split at h
 ·rename_i ht hx hy
  split at h
  ·rename_i hm
   split at h
   ·rename_i hc
    cases h
    obtain ⟨k1, k2, k3, k4, k5, k6⟩ := sliceInfo_sound ht
    obtain ⟨c1, c2, c3, c4, c5⟩ := hc
    subst c1; subst c2; subst c3
    exact ⟨holds_copy_ms ho k1 k2 hx c4 rfl hy c5 rfl, fun p hp => by simp at hp; subst hp; exact evMrow_sound hm⟩
   ·cases h
  ·cases h
 ·rename_i ht hx hy
  split at h
  ·rename_i hb
   split at h
   ·rename_i hg
    split at h
    ·rename_i hc
     cases h
     obtain ⟨k1, k2, k3, k4, k5, k6⟩ := sliceInfo_sound ht
     rcases evBox_sound hb with ⟨_, he⟩ | ⟨hf, _⟩
     ·exact ⟨holds_copy_bs ho k1 k2 hx hg hc.1 hc.2.1 hc.2.2.1 rfl hy hc.2.2.2 rfl, fun p hp => by simp at hp; subst hp; exact he⟩
     ·cases hf
    ·cases h
   ·cases h
  ·cases h
 ·cases h
theorem evClear_sound {t : TypeId} {x : Operand} (ho : o.op = .call { callee := .builtin .clear, args := #[x], argTypes := #[t] }) (h : evClear P σ t (aeval s x) = some st) : Gives P o s σ id st := by
 unfold evClear at h
 split at h
 ·rename_i ht hx
  split at h
  ·rename_i hm
   split at h
   ·rename_i hc
    cases h
    obtain ⟨k1, k2, k3, k4, k5, k6⟩ := sliceInfo_sound ht
    obtain ⟨c1, c2, c3, c4, c5⟩ := hc
    subst c1; subst c2; subst c3
    exact ⟨holds_clear_ms ho k1 k2 k4 k5 c5 k6 hx c4, fun p hp => by simp at hp; subst hp; exact evMrow_sound hm⟩
   ·cases h
  ·cases h
 ·cases h
theorem evBuiltin_sound {b : Builtin} {args : Array Operand} {ts : Array TypeId} (ho : o.op = .call { callee := .builtin b, args := args, argTypes := ts }) (h : evBuiltin P s σ id b args.toList ts.toList = some st) : Gives P o s σ id st := by
 unfold evBuiltin at h
 split at h
 ·rename_i x t ha ht
  rw [toList_one ha, toList_one ht] at ho
  unfold evLen at h
  split at h
  ·rename_i hx
   split at h
   ·rename_i hc
    cases h
    obtain ⟨⟨e, size, bytes, z⟩, ht⟩ := Option.isSome_iff_exists.1 hc
    exact .mk0 (holds_len_slice ho (sliceInfo_sound ht).1 (by rw [hx]; exact AV.le_refl _))
   ·cases h
  ·rename_i hx
   split at h
   ·rename_i hc
    cases h
    obtain ⟨⟨e, size, bytes, z⟩, ht⟩ := Option.isSome_iff_exists.1 hc
    exact .mk0 (holds_len_nils ho (sliceInfo_sound ht).1 hx)
   ·cases h
  ·rename_i hx
   split at h
   ·rename_i hc
    cases h
    obtain ⟨⟨e, size, bytes, z⟩, ht⟩ := Option.isSome_iff_exists.1 hc
    exact .mk0 (holds_len_slice ho (sliceInfo_sound ht).1 (by rw [hx]; exact AV.le_clip _))
   ·cases h
  ·rename_i hx
   split at h
   ·rename_i hc
    cases h
    obtain ⟨⟨e, size, bytes, z⟩, ht⟩ := Option.isSome_iff_exists.1 hc
    exact .mk0 (holds_len_ms ho (sliceInfo_sound ht).1 hx)
   ·cases h
  ·rename_i hx
   split at h
   ·rename_i hc
    cases h
    obtain ⟨⟨e, size, bytes, z⟩, ht⟩ := Option.isSome_iff_exists.1 hc
    exact .mk0 (holds_len_bs ho (sliceInfo_sound ht).1 hx)
   ·cases h
  ·rename_i hx
   split at h
   ·rename_i hc; cases h; exact .mk0 (holds_len_str ho hc hx)
   ·cases h
  ·cases h
 ·rename_i x y ha
  rw [toList_two ha] at ho
  unfold evMin at h
  split at h
  ·rename_i hx hy; cases h; exact .mk0 (holds_min ho hx hy)
  ·cases h
 ·rename_i x y ha
  rw [toList_two ha] at ho
  unfold evMax at h
  split at h
  ·rename_i hx hy; cases h; exact .mk0 (holds_max ho hx hy)
  ·cases h
 ·rename_i x y t t' ha ht
  rw [toList_two ha, toList_two ht] at ho
  split at h
  ·rename_i htt
   subst htt
   exact evAppend_sound ho h
  ·exact evAppendZ_sound ho h
 ·rename_i x y t t' ha ht
  rw [toList_two ha, toList_two ht] at ho
  exact evCopy_sound ho h
 ·rename_i x t ha ht
  rw [toList_one ha, toList_one ht] at ho
  exact evClear_sound ho h
 ·cases h
theorem evConvert_sound {src dst : TypeId} {x : Operand} (ho : o.op = .convert src dst x) (h : evConvert P src dst id (aeval s x) = some st) : Gives P o s σ id st := by
 unfold evConvert at h
 split at h
 ·rename_i hx
  split at h
  ·rename_i h1 h2; cases h; exact .mk0 (holds_convert_int ho h1 h2 hx)
  ·cases h
 ·rename_i hx
  split at h
  ·rename_i hc; cases h; simp only [Bool.and_eq_true] at hc; exact .mk0 (holds_convert_str ho hc.1 hc.2 hx)
  ·split at h
   ·rename_i hd
    split at h
    ·rename_i hc
     cases h
     exact .mk0 ((holds_convert_str_bytes ho hc.1 hd hc.2.1 hc.2.2.1 hx (by unfold maxLen; omega)).freezeNew (by simp))
    ·cases h
   ·cases h
 ·rename_i hx
  split at h
  ·rename_i h1
   split at h
   ·rename_i hc
    cases h
    simp only [Bool.and_eq_true] at hc
    exact .mk0 (holds_convert_bytes_le (bs := []) ho h1 hc.1 hc.2 (by rw [hx]; exact AV.le_nils0))
   ·cases h
  ·cases h
 ·rename_i hx
  split at h
  ·rename_i h1 h2
   split at h
   ·rename_i hc; cases h; simp only [Bool.and_eq_true] at hc; rw [bytesOf_sound h2] at hx; exact .mk0 (holds_convert_bytes ho h1 hc.1 hc.2 hx)
   ·cases h
  ·cases h
 ·cases h
theorem evLoad_sound {t : TypeId} {x : Operand} (ho : o.op = .load t x) (h : evLoad P σ t (aeval s x) = some st) : Gives P o s σ id st := by
 unfold evLoad at h
 split at h
 ·rename_i hx
  split at h
  ·rename_i hb
   split at h
   ·rename_i hy
    split at h
    ·rename_i hc
     cases h
     obtain ⟨h1, _⟩ := tyInfo_sound hc.2
     refine ⟨?_, fun p hp => by simp at hp; subst hp; rfl⟩
     rcases evBox_sound hb with ⟨_, he⟩ | ⟨_, he⟩
     ·exact holds_load ho hx (.inl he) hy hc.1 h1
     ·exact holds_load ho hx (.inr he) hy hc.1 h1
    ·cases h
   ·cases h
  ·cases h
 ·rename_i hx
  split at h
  ·rename_i hc; cases h; exact .mk0 (holds_load_view ho hx (tyInfo_sound hc).1)
  ·cases h
 ·rename_i hx
  split at h
  ·rename_i hm
   split at h
   ·rename_i hy
    split at h
    ·rename_i hc
     cases h
     exact ⟨holds_load_mp ho hx hy hc.1 (tyInfo_sound hc.2).1, fun p hp => by simp at hp; subst hp; exact evMrow_sound hm⟩
    ·cases h
   ·cases h
  ·cases h
 ·cases h
theorem evStore_sound {t : TypeId} {x y : Operand} (ho : o.op = .store t x y) (h : evStore P σ t (aeval s x) (aeval s y) = some st) : Gives P o s σ id st := by
 unfold evStore at h
 split at h
 ·rename_i hx
  split at h
  ·rename_i hb
   split at h
   ·rename_i hy ht
    split at h
    ·rename_i hc
     cases h
     rcases evBox_sound hb with ⟨_, he⟩ | ⟨hf, _⟩
     ·exact ⟨holds_store ho hx rfl hy hc.1 hc.2.1 (by rw [← hc.2.2.1]; exact (tyInfo_sound ht).2) hc.2.2.2, fun p hp => by simp at hp; subst hp; exact he⟩
     ·cases hf
    ·cases h
   ·cases h
  ·cases h
 ·rename_i hx
  split at h
  ·rename_i hm
   split at h
   ·rename_i hy ht hput
    split at h
    ·rename_i hc
     cases h
     exact ⟨holds_store_mp ho hx rfl hy hc.1 hc.2.1 (by rw [← hc.2.2.1]; exact (tyInfo_sound ht).2) hc.2.2.2 hput, fun p hp => by simp at hp; subst hp; exact evMrow_sound hm⟩
    ·cases h
   ·cases h
  ·cases h
 ·cases h
theorem evIndexAddr_sound {t : TypeId} {x i : Operand} (ho : o.op = .indexAddr t x i) (h : evIndexAddr P σ t (aeval s x) (aeval s i) = some st) : Gives P o s σ id st := by
 unfold evIndexAddr at h
 split at h
 ·rename_i hx hi
  split at h
  ·rename_i hn
   split at h
   ·rename_i hy ht
    split at h
    ·rename_i hs
     cases h
     obtain ⟨k1, k2, _⟩ := sliceInfo_sound ht
     exact .mk0 (holds_indexAddr_slice ho k1 (by rw [hx]; exact AV.le_clip _) hi hn hy (by rw [hs]; exact k2))
    ·cases h
   ·cases h
  ·cases h
 ·rename_i hx hi
  split at h
  ·rename_i hm ht
   split at h
   ·rename_i hc
    cases h
    obtain ⟨k1, k2, _⟩ := sliceInfo_sound ht
    obtain ⟨c1, c2, c3, c4, c5⟩ := hc
    subst c3; subst c4; subst c5
    exact ⟨holds_indexAddr_ms ho k1 k2 hx hi c1 c2, fun p hp => by simp at hp; subst hp; exact evMrow_sound hm⟩
   ·cases h
  ·cases h
 ·rename_i hx hi
  split at h
  ·rename_i ht
   split at h
   ·rename_i hc
    cases h
    obtain ⟨k1, k2, _⟩ := sliceInfo_sound ht
    exact .mk0 (holds_indexAddr_bs ho k1 k2 hx hi hc.1 hc.2)
   ·cases h
  ·cases h
 ·rename_i hx hi
  split at h
  ·rename_i hm ht
   split at h
   ·rename_i hc
    cases h
    obtain ⟨k1, k2⟩ := arrInfo_sound ht
    exact ⟨holds_indexAddr_mp ho k1 k2 hx hi hc.1 hc.2, fun p hp => by simp at hp; subst hp; exact evMrow_sound hm⟩
   ·cases h
  ·cases h
 ·rename_i hx hi
  split at h
  ·rename_i hn
   split at h
   ·rename_i hy ht
    split at h
    ·rename_i hs
     cases h
     obtain ⟨k1, k2, _⟩ := sliceInfo_sound ht
     exact .mk0 (holds_indexAddr_slice ho k1 (by rw [hx]; exact AV.le_refl _) hi hn hy (by rw [hs]; exact k2))
    ·cases h
   ·cases h
  ·cases h
 ·rename_i hx hi
  split at h
  ·rename_i ht
   split at h
   ·rename_i hc
    cases h
    obtain ⟨k1, k2⟩ := arrInfo_sound ht
    exact .mk0 (holds_indexAddr_ptr ho k1 k2 hx hi hc.1 hc.2)
   ·cases h
  ·cases h
 ·rename_i hx hi
  split at h
  ·rename_i ht hy
   split at h
   ·rename_i hc
    cases h
    obtain ⟨k1, k2⟩ := arrInfo_sound ht
    exact .mk0 (holds_indexAddr_view ho k1 k2 hx hi hc.1 hc.2.1 hy hc.2.2)
   ·cases h
  ·cases h
 ·cases h
theorem evSlice_sound {t : TypeId} {x : Operand} {lo hi mx : Option Operand} (ho : o.op = .slice t x lo hi mx) (h : evSlice P s σ t (aeval s x) lo hi mx = some st) : Gives P o s σ id st := by
 unfold evSlice at h
 split at h
 ·rename_i hx
  split at h
  ·rename_i ht hl hh
   split at h
   ·rename_i hc
    cases h
    obtain ⟨k1, k2, _⟩ := sliceInfo_sound ht
    exact .mk0 (holds_slice_slice ho k1 k2 (by rw [hx]; exact AV.le_refl _) hl hh hc.1 hc.2.1 hc.2.2)
   ·cases h
  ·cases h
 ·rename_i hx
  split at h
  ·rename_i ht hl hh
   split at h
   ·rename_i hc
    cases h
    obtain ⟨k1, k2, _⟩ := sliceInfo_sound ht
    exact .mk0 (holds_slice_slice ho k1 k2 (by rw [hx]; exact AV.le_clip _) hl hh hc.1 hc.2.1 hc.2.2)
   ·cases h
  ·cases h
 ·rename_i hx
  split at h
  ·rename_i hm ht hl hh
   split at h
   ·rename_i hc
    cases h
    obtain ⟨k1, k2, _⟩ := sliceInfo_sound ht
    obtain ⟨c1, c2, c3, c4, c5⟩ := hc
    subst c3; subst c4; subst c5
    exact ⟨holds_slice_ms ho k1 k2 hx hl hh c1 c2, fun p hp => by simp at hp; subst hp; exact evMrow_sound hm⟩
   ·cases h
  ·cases h
 ·rename_i hx
  split at h
  ·rename_i y ht hl hh
   cases h
   obtain ⟨e, size, bytes, z⟩ := y
   obtain ⟨k1, k2, _⟩ := sliceInfo_sound ht
   exact .mk0 (holds_slice_nils ho k1 k2 hx hl hh)
  ·cases h
 ·rename_i hx
  split at h
  ·rename_i hl hh
   split at h
   ·rename_i hc; cases h; exact .mk0 (holds_slice_str ho hc.1 hx hl hh hc.2.1 hc.2.2)
   ·cases h
  ·cases h
 ·rename_i hx
  unfold evSliceBox at h
  split at h
  ·rename_i b n e size hb ht
   split at h
   ·rename_i hy hl hh
    split at h
    ·rename_i hc
     cases h
     obtain ⟨c1, c2, c3, c4, c5, c6⟩ := hc
     refine ⟨holds_slice_fbox (!b) ho ht hx hy c1 c2 c3 hl hh c4 c5 (by unfold maxLen; omega), fun p hp => ?_⟩
     simp at hp
     subst hp
     rcases evBox_sound hb with ⟨rfl, he⟩ | ⟨rfl, he⟩ <;> simpa using he
    ·cases h
   ·cases h
  ·cases h
 ·rename_i hx
  split at h
  ·rename_i ht
   split at h
   ·rename_i hl hh
    split at h
    ·rename_i hc
     cases h
     exact .mk0 (holds_slice_view ho ht hx hc.1 hc.2.1 hl hh hc.2.2.1 hc.2.2.2.1 (by unfold maxLen; omega))
    ·cases h
   ·cases h
  ·cases h
 ·rename_i hx
  split at h
  ·rename_i ht hl hh hm
   split at h
   ·rename_i hc
    cases h
    obtain ⟨k1, k2, _⟩ := sliceInfo_sound ht
    obtain ⟨c1, c2, c3, c4, c5⟩ := hc
    subst c2
    exact .mk0 (holds_slice_clip ho k1 k2 (by rw [hx]; exact AV.le_refl _) hl hh hm c1 c3 c4 c5)
   ·cases h
  ·cases h
 ·rename_i hx
  split at h
  ·rename_i ht hl hh hm
   split at h
   ·rename_i hc
    cases h
    obtain ⟨k1, k2, _⟩ := sliceInfo_sound ht
    obtain ⟨c1, c2, c3, c4, c5⟩ := hc
    subst c2
    exact .mk0 (holds_slice_clip ho k1 k2 (by rw [hx]; exact AV.le_clip _) hl hh hm c1 c3 c4 c5)
   ·cases h
  ·cases h
 ·rename_i hx
  split at h
  ·rename_i y ht hl hh hm
   split at h
   ·rename_i hc
    cases h
    obtain ⟨e, size, bytes, z⟩ := y
    obtain ⟨k1, k2, _⟩ := sliceInfo_sound ht
    have := holds_slice_clip (id := id) ho k1 k2 (own := none) (xs := []) (by rw [hx]; exact AV.le_nils0) hl hh hm hc (Nat.le_refl _) (Nat.le_refl _) rfl
    exact .mk0 this
   ·cases h
  ·cases h
 ·cases h
theorem evalOp_sound (h : evalOp P o.op s σ id = some st) : Gives P o s σ id st := by
 cases ho : o.op <;> rw [ho] at h <;> simp only [evalOp] at h <;> try (cases h; done)
 case move x => cases h; exact .mk0 (holds_move ho)
 case assign x => cases h; exact .mk0 (holds_assign ho)
 case pick c x y =>
  unfold evPick at h
  split at h
  ·rename_i hc; cases h; exact .mk0 (holds_pick ho hc)
  ·cases h
 case extract x i =>
  unfold evExtract at h
  split at h
  ·rename_i hx
   split at h
   ·rename_i hy; cases h; exact .mk0 (holds_extract ho hx hy)
   ·cases h
  ·cases h
 case nilCheck x =>
  unfold evNilCheck at h
  split at h
  ·rename_i hx; cases h; rw [← hx]; exact .mk0 (holds_nilCheck ho (by rw [hx]; trivial))
  ·rename_i hx; cases h; rw [← hx]; exact .mk0 (holds_nilCheck ho (by rw [hx]; trivial))
  ·rename_i hx; cases h; rw [← hx]; exact .mk0 (holds_nilCheck ho (by rw [hx]; trivial))
  ·cases h
 case makeFunc fn first cap =>
  unfold evMakeFunc at h
  split at h
  ·rename_i f hf; cases h; rw [toList_nil hf] at ho; exact .mk0 (holds_makeFunc ho)
  ·cases h
 case binOp op t x y yt =>
  unfold evBin at h
  split at h
  ·rename_i hx hy
   split at h
   ·rename_i hr; cases h; exact .mk0 (holds_binOp ho hx hy hr)
   ·split at h
    ·rename_i hr; cases h; exact .mk0 (holds_nilEq ho hx hy hr)
    ·cases h
  ·rename_i hx hy
   split at h
   ·rename_i hr; cases h; exact .mk0 (holds_eqA ho hx hy hr)
   ·cases h
  ·split at h
   ·rename_i hr; cases h; exact .mk0 (holds_nilEq ho rfl rfl hr)
   ·cases h
 case unOp op t x =>
  unfold evUn at h
  split at h
  ·rename_i hx
   split at h
   ·rename_i hr; cases h; exact .mk0 (holds_unOp ho hx hr)
   ·cases h
  ·cases h
 case convert src dst x => exact evConvert_sound ho h
 case index t x i =>
  unfold evIndex at h
  split at h
  ·rename_i hx hi
   split at h
   ·rename_i hc
    split at h
    ·rename_i hb; cases h; exact .mk0 (holds_index_str ho hc.1 hx hi hc.2 hb)
    ·cases h
   ·cases h
  ·cases h
 case fieldAddr t x f =>
  unfold evFieldAddr at h
  split at h
  ·rename_i hx hk; cases h; exact .mk0 (holds_fieldAddr_ptr ho hx hk)
  ·rename_i hx hk
   split at h
   ·rename_i hm
    cases h
    exact ⟨holds_fieldAddr_mp ho hx hk, fun p hp => by simp at hp; subst hp; exact evMrow_sound hm⟩
   ·cases h
  ·rename_i hx hk
   split at h
   ·rename_i hy
    split at h
    ·rename_i hs; cases h; exact .mk0 (holds_fieldAddr_view ho hx hk hy hs)
    ·cases h
   ·cases h
  ·cases h
 case load t x => exact evLoad_sound ho h
 case store t x y => exact evStore_sound ho h
 case box t x => cases h; exact .mk0 (holds_box ho rfl)
 case alloc t =>
  unfold evAlloc at h
  split at h
  ·rename_i hz; cases h; exact .mk0 (holds_alloc ho hz)
  ·cases h
 case indexAddr t x i => exact evIndexAddr_sound ho h
 case build t parts =>
  unfold evBuild at h
  split at h
  ·rename_i hz hp
   split at h
   ·rename_i hf; cases h; exact .mk0 (holds_build_struct ho hz hp hf)
   ·cases h
  ·rename_i hz hp ht
   split at h
   ·rename_i hf
    cases h
    obtain ⟨k1, k2⟩ := arrInfo_sound ht
    exact .mk0 (holds_build_array ho hz k1 k2 hf)
   ·cases h
  ·cases h
 case buildSlice t len parts =>
  unfold evBuildSlice at h
  split at h
  ·rename_i ht
   split at h
   ·rename_i hf
    split at h
    ·rename_i hc
     cases h
     obtain ⟨k1, k2, k3, k4, k5, k6⟩ := sliceInfo_sound ht
     exact .mk0 (holds_buildSlice ho k1 k2 k4 k6 k5 hc.1 hf hc.2.1 hc.2.2)
    ·cases h
   ·cases h
  ·cases h
 case slice t x lo hi mx => exact evSlice_sound ho h
 case makeInterface t x =>
  split at h
  ·rename_i hc; cases h; exact .mk0 (holds_makeInterface ho hc)
  ·cases h
 case typeAssert x xt t ok =>
  cases ok with
  | false => cases h
  | true =>
   simp only [Option.map_eq_some_iff] at h
   obtain ⟨v, hv, rfl⟩ := h
   exact .mk0 (holds_typeAssert ho hv)
 case makeSlice t x y =>
  unfold evMakeSlice at h
  split at h
  ·rename_i ht hx hy
   split at h
   ·rename_i hc
    cases h
    obtain ⟨k1, k2, k3, k4, k5, k6⟩ := sliceInfo_sound ht
    exact .mk0 (holds_makeSlice ho k1 k2 k3 k4 k5 k6 hx hy hc.1 hc.2.1 hc.2.2.1 hc.2.2.2)
   ·cases h
  ·cases h
 case call c =>
  unfold evCall at h
  obtain ⟨callee, args, ts⟩ := c
  cases callee with
  | builtin b => exact evBuiltin_sound ho h
  | value => cases h
  | invoke => cases h
end

abbrev Trace := List (Nat × Foot × Foot)
def addT (i : Nat) (st : Step) (T : Trace) : Trace :=
 match st.pre, st.post with
 | [], [] => T
 | p, q => (i, p, q) :: T
def AStepX (P : Program) (o : Oper) (c : Cfg) (id : Nat) (k : Step → Prop) : Prop := ∃ st, Gives P o c.s c.σ id st ∧ k st
def wantedG (ops : Array Oper) (gd : Option (Nat × Bool)) (s : Slots) : Option Bool :=
 match gd with
 | none => some true
 | some (j, want) =>
  match (ops[j]?).bind (·.dst) with
  | none => none
  | some d =>
   match s d with
   | .lit (.bool b) => some (b == want)
   | .tup [] => some false
   | _ => none
theorem wantedG_none (ops : Array Oper) (s : Slots) : wantedG ops none s = some true := rfl
def astep (P : Program) (o : Oper) (c : Cfg) (id : Nat) (k : Step → Prop) : Prop := AStepX P o c id k
theorem astep_sound {P : Program} {o : Oper} {c : Cfg} {id : Nat} {k : Step → Prop} (h : astep P o c id k) : ∃ st, Gives P o c.s c.σ id st ∧ k st := h
def aguard (b : Option Bool) (A B : Prop) : Prop :=
 match b with
 | some b => (b = true → A) ∧ (b = false → B)
 | none => False
theorem aguard_true (A B : Prop) : aguard (some true) A B = A := by simp [aguard]
theorem aguard_false (A B : Prop) : aguard (some false) A B = B := by simp [aguard]
@[congr] theorem aguard_congr {b b' : Option Bool} (h : b = b') (A B : Prop) : aguard b A B = aguard b' A B := by rw [h]
def aops (P : Program) (ops : Array Oper) (m : Nat) : List Oper → Nat → Trace → (Cfg → Trace → Prop) → Cfg → Prop
 | [], _, T, k, c => k c T
 | o :: r, i, T, k, c => aguard (wantedA ops o c.s) (astep P o c (m + i) fun st => aops P ops m r (i + 1) (addT i st T) k (c.after o.dst st)) (aops P ops m r (i + 1) T k (c.after o.dst ⟨[], .tup [], []⟩))
theorem aops_cons (P : Program) (ops : Array Oper) (m i : Nat) (T : Trace) (k : Cfg → Trace → Prop) (d : Option Tmp) (op : Op) (ty : TypeId) (pos : String) (after : Array Edge) (gd : Option (Nat × Bool)) (r : List Oper) (s : Slots) (σ : Nat → Ent) (n : Nat) :
  aops P ops m (⟨d, op, ty, pos, after, gd⟩ :: r) i T k ⟨s, σ, n⟩ = aguard (wantedG ops gd s) (AStepX P ⟨d, op, ty, pos, after, gd⟩ ⟨s, σ, n⟩ (m + i) fun st => aops P ops m r (i + 1) (addT i st T) k ⟨sput s d st.v, wr σ st.post, n⟩) (aops P ops m r (i + 1) T k ⟨sput s d (.tup []), σ, n⟩) := rfl
@[congr] theorem aops_congr {c c' : Cfg} {T T' : Trace} (h : c = c') (hT : T = T') (P : Program) (ops : Array Oper) (m : Nat) (l : List Oper) (i : Nat) (k : Cfg → Trace → Prop) : aops P ops m l i T k c = aops P ops m l i T' k c' := by rw [h, hT]
@[congr] theorem AStepX_congr {c c' : Cfg} (h : c = c') (P : Program) (o : Oper) (id : Nat) (k : Step → Prop) : AStepX P o c id k = AStepX P o c' id k := by rw [h]
def depMasks : List Oper → List Nat → List Nat
 | [], ms => ms
 | o :: r, ms => depMasks r (ms ++ [o.after.toList.foldl (fun s e => if Region.binds .any e then s ||| 2 ^ e.on ||| ms.getD e.on 0 else s) 0])
def depB (ops : Array Oper) (i j : Nat) : Bool := ((depMasks ops.toList []).getD j 0).testBit i
theorem depMasks_sound (ops : Array Oper) : ∀ (l : List Oper) (k : Nat) (ms : List Nat), (∀ j, l[j]? = ops[k + j]?) → ms.length = k → (∀ i j, (ms.getD j 0).testBit i = true → Dep ops i j) →
  ∀ i j, ((depMasks l ms).getD j 0).testBit i = true → Dep ops i j
 | [], _, ms, _, _, h => h
 | o :: l, k, ms, hl, hlen, h => by
  have h0 : ops[k]? = some o := by simpa using (hl 0).symm
  refine depMasks_sound ops l (k + 1) _ (fun j => by have := hl (j + 1); simpa [Nat.add_assoc, Nat.add_comm 1 j] using this) (by simp [hlen]) fun i j hb => ?_
  by_cases hj : j < ms.length
  ·rw [List.getD_eq_getElem?_getD, List.getElem?_append_left hj, ← List.getD_eq_getElem?_getD] at hb
   exact h i j hb
  ·by_cases hjk : j = k
   ·subst hjk
    rw [List.getD_eq_getElem?_getD, List.getElem?_append_right (by omega), hlen] at hb
    simp only [Nat.sub_self, List.getElem?_cons_zero, Option.getD_some] at hb
    have key : ∀ (es : List Edge) (s0 : Nat), (∀ e ∈ es, e ∈ o.after.toList) → ((s0.testBit i = true → Dep ops i j)) →
      (es.foldl (fun s e => if Region.binds .any e then s ||| 2 ^ e.on ||| ms.getD e.on 0 else s) s0).testBit i = true → Dep ops i j := by
     intro es
     induction es with
     | nil => intro s0 _ h0 hb; exact h0 hb
     | cons e r ih =>
      intro s0 hm h1 hb
      refine ih _ (fun e' he' => hm e' (List.mem_cons_of_mem _ he')) ?_ hb
      intro hb'
      simp only at hb'
      split at hb'
      ·rename_i hbe
       have he : e ∈ o.after := by have := hm e (List.mem_cons_self ..); simpa using this
       have hd : Dep ops e.on j := .edge e.on j o e h0 he hbe rfl
       rw [Nat.testBit_or, Nat.testBit_or, Bool.or_eq_true, Bool.or_eq_true] at hb'
       rcases hb' with (hb' | hb') | hb'
       ·exact h1 hb'
       ·rw [Nat.testBit_two_pow] at hb'
        have : e.on = i := by simpa using hb'
        rw [← this]; exact hd
       ·exact .trans i e.on j (h i e.on hb') hd
      ·exact h1 hb'
    exact key _ 0 (fun e he => he) (fun hb => by simp at hb) hb
   ·rw [List.getD_eq_getElem?_getD, List.getElem?_append_right (by omega)] at hb
    have : (List.length ms) + 1 ≤ j := by omega
    rw [List.getElem?_eq_none (by simp; omega)] at hb
    simp at hb
theorem depB_sound {ops : Array Oper} {i j : Nat} (h : depB ops i j = true) : Dep ops i j :=
 depMasks_sound ops ops.toList 0 [] (fun j => by simp) rfl (fun i j hb => by simp at hb) i j h
def DisjF (x y : Foot × Foot) : Prop := (∀ p ∈ x.2, ∀ q ∈ y.1 ++ y.2, p.1 ≠ q.1) ∧ (∀ p ∈ x.1, ∀ q ∈ y.2, p.1 ≠ q.1)
def Ind (ops : Array Oper) (i j : Nat) (x y : Foot × Foot) : Prop := depB ops i j = true ∨ DisjF x y
def CFy (ops : Array Oper) (y : Nat × Foot × Foot) : Trace → Prop
 | [] => True
 | x :: r => Ind ops x.1 y.1 x.2 y.2 ∧ CFy ops y r
def CF (ops : Array Oper) : Trace → Prop
 | [] => True
 | y :: r => CFy ops y r ∧ CF ops r
section
variable {P : Program} {ops : Array Oper} {m : Nat}
def addAll : Nat → List Step → Trace → Trace
 | _, [], T => T
 | i, st :: r, T => addAll (i + 1) r (addT i st T)
theorem aops_lex {Q : Cfg → Trace → Prop} : ∀ (l : List Oper) (i : Nat) (T : Trace) (c : Cfg), aops P ops m l i T Q c →
  ∃ outs : List Step, outs.length = l.length ∧ ∀ out : Nat → Step, (∀ j, j < l.length → out (i + j) = outs.getD j default) → lexA P ops m out (fun c' => Q c' (addAll i outs T)) l i c
 | [], i, T, c, h => ⟨[], rfl, fun out _ => h⟩
 | o :: l, i, T, c, h => by
  simp only [aops, aguard] at h
  cases hw : wantedA ops o c.s with
  | none => rw [hw] at h; exact h.elim
  | some b =>
   rw [hw] at h
   cases b with
   | true =>
    obtain ⟨st, hg, hk⟩ := astep_sound (h.1 rfl)
    obtain ⟨outs, hl, hr⟩ := aops_lex l (i + 1) _ _ hk
    refine ⟨st :: outs, by simp [hl], fun out ho => ?_⟩
    have h0 : out i = st := by simpa using ho 0 (by simp)
    refine ⟨.inl ⟨hw, ?_⟩, ?_⟩
    ·rw [h0]; exact hg
    ·rw [h0]
     exact hr out fun j hj => by
      have := ho (j + 1) (by simp; omega)
      rw [show i + (j + 1) = i + 1 + j from by omega] at this
      simpa using this
   | false =>
    obtain ⟨outs, hl, hr⟩ := aops_lex l (i + 1) _ _ (h.2 rfl)
    refine ⟨⟨[], .tup [], []⟩ :: outs, by simp [hl], fun out ho => ?_⟩
    have h0 : out i = ⟨[], .tup [], []⟩ := by simpa using ho 0 (by simp)
    refine ⟨.inr ⟨hw, h0⟩, ?_⟩
    ·rw [h0]
     exact hr out fun j hj => by
      have := ho (j + 1) (by simp; omega)
      rw [show i + (j + 1) = i + 1 + j from by omega] at this
      simpa using this
def IndS (ops : Array Oper) (i j : Nat) (x y : Step) : Prop := Ind ops i j (x.pre, x.post) (y.pre, y.post)
theorem CFy_mem {y : Nat × Foot × Foot} : ∀ {T : Trace}, CFy ops y T → ∀ x ∈ T, Ind ops x.1 y.1 x.2 y.2
 | [], _, x, hx => by cases hx
 | z :: r, h, x, hx => by
  rcases List.mem_cons.1 hx with rfl | hx
  ·exact h.1
  ·exact CFy_mem h.2 x hx
theorem CF_addAll : ∀ (outs : List Step) (i : Nat) (T : Trace), CF ops (addAll i outs T) →
  CF ops T ∧ (∀ x ∈ T, ∀ (j : Nat) (st : Step), outs[j]? = some st → Ind ops x.1 (i + j) x.2 (st.pre, st.post)) ∧
  (∀ (j k : Nat) (st st' : Step), j < k → outs[j]? = some st → outs[k]? = some st' → IndS ops (i + j) (i + k) st st')
 | [], i, T, h => ⟨h, fun x _ j st hst => by simp at hst, fun j k st st' _ hst _ => by simp at hst⟩
 | st0 :: outs, i, T, h => by
  obtain ⟨h1, h2, h3⟩ := CF_addAll outs (i + 1) (addT i st0 T) h
  by_cases he : st0.pre = [] ∧ st0.post = []
  ·have hT : addT i st0 T = T := by simp [addT, he.1, he.2]
   rw [hT] at h1 h2
   refine ⟨h1, fun x hx j st hst => ?_, fun j k st st' hjk hst hst' => ?_⟩
   ·cases j with
    | zero =>
     simp at hst; subst hst
     exact .inr ⟨by simp [he.1, he.2], by simp [he.2]⟩
    | succ j =>
     have := h2 x hx j st (by simpa using hst)
     rwa [show i + (j + 1) = i + 1 + j from by omega]
   ·cases j with
    | zero =>
     simp at hst; subst hst
     exact .inr ⟨by simp [he.2], by simp [he.1]⟩
    | succ j =>
     cases k with
     | zero => omega
     | succ k =>
      have := h3 j k st st' (by omega) (by simpa using hst) (by simpa using hst')
      rwa [show i + (j + 1) = i + 1 + j from by omega, show i + (k + 1) = i + 1 + k from by omega]
  ·have hT : addT i st0 T = (i, st0.pre, st0.post) :: T := by
    unfold addT
    split
    ·rename_i a b; exact absurd ⟨a, b⟩ he
    ·rfl
   rw [hT] at h1 h2
   refine ⟨h1.2, fun x hx j st hst => ?_, fun j k st st' hjk hst hst' => ?_⟩
   ·cases j with
    | zero => simp at hst; subst hst; exact CFy_mem h1.1 x hx
    | succ j =>
     have := h2 x (List.mem_cons_of_mem _ hx) j st (by simpa using hst)
     rwa [show i + (j + 1) = i + 1 + j from by omega]
   ·cases j with
    | zero =>
     simp at hst; subst hst
     cases k with
     | zero => omega
     | succ k =>
      have := h2 (i, st0.pre, st0.post) (List.mem_cons_self ..) k st' (by simpa using hst')
      unfold IndS
      rwa [show i + (k + 1) = i + 1 + k from by omega]
    | succ j =>
     cases k with
     | zero => omega
     | succ k =>
      have := h3 j k st st' (by omega) (by simpa using hst) (by simpa using hst')
      rwa [show i + (j + 1) = i + 1 + j from by omega, show i + (k + 1) = i + 1 + k from by omega]
theorem wp_region_ab {W0 : World} {g : Ghost} {N : Nat} {c : Cfg} {a : Act} {w : World} {id : Nat} {draw : Bool} {Q : Cfg → Prop} {Q' : Exit → Act → World → Prop} (hmix : P.follows .mixedOrders = true) (hN : shapeOK N ops = true)
  (hB : draw = true → Region.lexB .any ops = true) (hS : SimA W0 g N c a w) (h : aops P ops c.n ops.toList 0 [] (fun c' T => (draw = true → CF ops T) ∧ Q c') { c with n := c.n + ops.size })
  (hQ : ∀ c g' a' w, g.le g' → SimA W0 g' N c a' w → a'.defers = a.defers → Q c → Q' .normal a' w) {ro : Option Nat} : (Code.region id ops draw).wpIn (wideAt ro) 0 P Q' a w := by
 obtain ⟨outs, hl, hr⟩ := aops_lex _ _ _ _ h
 have hlex := hr (fun j => outs.getD j default) fun j _ => by simp
 have hS' : SimA W0 g N { c with n := c.n + ops.size } a w := ⟨hS.sim.more (by simp), hS.size, hS.slots⟩
 have hfree : ∀ j, c.σ (c.n + j) = .none := fun j => hS.sim.bound _ (by omega)
 cases draw with
 | false =>
  refine wpIn_region ?_
  have := lexA_sound (ro := ro) (m := c.n) (P := P) (ops := ops) (out := fun j => outs.getD j default) (Q := fun c' => (false = true → CF ops (addAll 0 outs [])) ∧ Q c') (Q' := Q') (W0 := W0) g hN (fun c g' a w hg hs hd hq => hQ c g' a w hg hs hd hq.2) ops.toList 0 { c with n := c.n + ops.size } g a w
   (fun j => by simp) (by simp) g.le_refl hS' rfl (Nat.le_refl _) (fun j _ _ => hfree j) hlex
  rw [List.range_eq_range']
  simpa using this
 | true =>
  have hB' := hB rfl
  simp only [Region.lexB, Bool.and_eq_true] at hB'
  have hdis : CF ops (addAll 0 outs []) → ∀ i j, i < j → ¬ Dep ops i j → Disj (outs.getD i default) (outs.getD j default) := by
   intro hCF i j hij hnd
   obtain ⟨_, _, h3⟩ := CF_addAll outs 0 [] hCF
   by_cases hj : j < outs.length
   ·have hi : i < outs.length := by omega
    have := h3 i j outs[i] outs[j] hij (List.getElem?_eq_getElem hi) (List.getElem?_eq_getElem hj)
    have e1 : outs.getD i default = outs[i] := by simp [List.getD, List.getElem?_eq_getElem hi]
    have e2 : outs.getD j default = outs[j] := by simp [List.getD, List.getElem?_eq_getElem hj]
    rw [e1, e2]
    rcases this with hd | hd
    ·simp only [Nat.zero_add] at hd
     exact absurd (depB_sound hd) hnd
    ·exact hd
   ·have e2 : outs.getD j default = (default : Step) := by simp [List.getD, List.getElem?_eq_none (Nat.not_lt.1 hj)]
    rw [e2]
    refine ⟨fun p _ q hq => ?_, fun p _ q hq => ?_⟩
    ·exact (List.not_mem_nil hq).elim
    ·exact (List.not_mem_nil hq).elim
  refine wpIn_region_any hmix ?_
  by_cases hCF : CF ops (addAll 0 outs [])
  ·have hany := anyA_lex (P := P) (ops := ops) (m := c.n) (out := fun j => outs.getD j default) (Q := fun c' => (true = true → CF ops (addAll 0 outs [])) ∧ Q c') (hdis hCF) ops.toList 0 (Array.replicate ops.size false) { c with n := c.n + ops.size }
    (fun j => by simp) (fun k o ho hk => by
     exfalso
     rcases Nat.lt_or_ge k ops.size with h' | h'
     ·simp [h'] at hk
     ·simp [h'] at hk) (fun j hj => by omega) (by simpa using hB'.2) hlex
   have := anyA_sound (ro := ro) (W0 := W0) (Q' := Q') g hN (fun c g' a w hg hs hd hq => hQ c g' a w hg hs hd hq.2) ops.toList.length (Array.replicate ops.size false) _ g a { w with drawn := w.drawn + 1 } g.le_refl ⟨hS'.sim.drew, hS'.size, hS'.slots⟩ rfl (Nat.le_refl _) (fun j _ _ => hfree j) hany
   simpa using this
  ·exfalso
   have fin : ∀ (l : List Oper) (k : Nat) (c : Cfg) (mm : Nat), lexA P ops mm (fun j => outs.getD j default) (fun c' => (true = true → CF ops (addAll 0 outs [])) ∧ Q c') l k c → CF ops (addAll 0 outs []) := by
    intro l
    induction l with
    | nil => intro k c mm hx; exact hx.1 rfl
    | cons o r ih => intro k c mm hx; exact ih _ _ _ hx.2
   exact hCF (fin _ _ _ _ hlex)
end
inductive AExit where
 | normal
 | exit (id : Nat)
 | ret
def aThen (next : Cfg → Prop) (Q : AExit → Cfg → Prop) : AExit → Cfg → Prop
 | .normal, c => next c
 | e, c => Q e c
def aBlk (id : Nat) (Q : AExit → Cfg → Prop) : AExit → Cfg → Prop
 | .exit id', c => if id' = id then Q .normal c else Q (.exit id') c
 | e, c => Q e c
def acond (v : AV) (A B : Prop) : Prop :=
 match v with
 | .lit (.bool b) => (b = true → A) ∧ (b = false → B)
 | _ => False
def mkMark (p : Nat × Nat) : Deferred := { target := .collected p.2, args := #[] }
def Marks (g g' : Ghost) (D D' : List Deferred) : Prop := ∃ L : List (Nat × Nat), D' = L.map mkMark ++ D ∧ (L.map (·.1)).Nodup ∧ ∀ p ∈ L, ¬ g.has p.1 ∧ g'.loc p.1 = some p.2 ∧ g'.row p.1 ≠ none
theorem Marks.refl (g g' : Ghost) (D : List Deferred) : Marks g g' D D := ⟨[], rfl, List.nodup_nil, fun d hd => (by cases hd)⟩
theorem Marks.of_eq {g g' : Ghost} {D D' : List Deferred} (h : D' = D) : Marks g g' D D' := h ▸ .refl g g' D
theorem Marks.trans {g g1 g2 : Ghost} {D D1 D2 : List Deferred} (hle : g.le g1) (hle2 : g1.le g2) (h : Marks g g1 D D1) (h' : Marks g1 g2 D1 D2) : Marks g g2 D D2 := by
 obtain ⟨M, rfl, hn, hM⟩ := h
 obtain ⟨M', rfl, hn', hM'⟩ := h'
 refine ⟨M' ++ M, by simp, ?_, fun d hd => ?_⟩
 ·rw [List.map_append, List.nodup_append]
  refine ⟨hn', hn, fun a ha b hb hab => ?_⟩
  obtain ⟨p, hp, rfl⟩ := List.mem_map.1 ha
  obtain ⟨q, hq, rfl⟩ := List.mem_map.1 hb
  exact (hM' p hp).1 (.inl (by rw [hab, (hM q hq).2.1]; simp))
 ·rcases List.mem_append.1 hd with hd | hd
  ·obtain ⟨h2, h3, h4⟩ := hM' d hd
   exact ⟨fun hj => h2 (hle.has hj), h3, h4⟩
  ·obtain ⟨h2, h3, h4⟩ := hM d hd
   exact ⟨h2, hle2.loc _ _ h3, hle2.row_ne h4⟩
def LQ (W0 : World) (g : Ghost) (N : Nat) (D : List Deferred) (Q : AExit → Cfg → Prop) : Exit → Act → World → Prop := fun e a w =>
 ∃ c g', g.le g' ∧ SimA W0 g' N c a w ∧ Marks g g' D a.defers ∧ match e with
  | .normal => Q .normal c
  | .exit id => Q (.exit id) c
  | .ret => Q .ret c
  | _ => False
theorem LQ.mono {W0 : World} {g g' : Ghost} {N : Nat} {D D' : List Deferred} {Q : AExit → Cfg → Prop} (hg : g.le g') (hM : Marks g g' D D') {e : Exit} {a : Act} {w : World} (h : LQ W0 g' N D' Q e a w) : LQ W0 g N D Q e a w :=
 let ⟨c, g'', hle, hs, hm, hq⟩ := h
 ⟨c, g'', hg.trans hle, hs, hM.trans hg hle hm, hq⟩
def kReg (ops : Array Oper) (draw : Bool) (Q : AExit → Cfg → Prop) (c : Cfg) (T : Trace) : Prop := (draw = true → CF ops T) ∧ Q .normal c
theorem kReg_false (ops : Array Oper) (Q : AExit → Cfg → Prop) (c : Cfg) (T : Trace) : kReg ops false Q c T = Q .normal c := by simp [kReg]
theorem kReg_true (ops : Array Oper) (Q : AExit → Cfg → Prop) (c : Cfg) (T : Trace) : kReg ops true Q c T = (CF ops T ∧ Q .normal c) := by simp [kReg]
theorem CF_one (ops : Array Oper) (x : Nat × Foot × Foot) : CF ops [x] = True := by simp [CF, CFy]
@[congr] theorem acond_congr {v v' : AV} (h : v = v') (A B : Prop) : acond v A B = acond v' A B := by rw [h]
def codeOK (N : Nat) : Code → Bool
 | .seq x y => codeOK N x && codeOK N y
 | .cond x y z => opndOK x && codeOK N y && codeOK N z
 | .block _ b => codeOK N b
 | .loop b => codeOK N b
 | .scope b => codeOK N b
 | .region _ ops draw => shapeOK N ops && (!draw || Region.lexB .any ops)
 | .rangeFunc f _ a b => opndOK f && codeOK N a && codeOK N b
 | _ => true
@[congr] theorem aThen_congr {c c' : Cfg} (h : c = c') (Q : AExit → Cfg → Prop) (next : Cfg → Prop) (e : AExit) : aThen next Q e c = aThen next Q e c' := by rw [h]
@[congr] theorem aBlk_congr {c c' : Cfg} (h : c = c') (Q : AExit → Cfg → Prop) (id : Nat) (e : AExit) : aBlk id Q e c = aBlk id Q e c' := by rw [h]
@[congr] theorem kReg_congr {c c' : Cfg} {T T' : Trace} (h : c = c') (hT : T = T') (ops : Array Oper) (draw : Bool) (Q : AExit → Cfg → Prop) : kReg ops draw Q c T = kReg ops draw Q c' T' := by rw [h, hT]
def noRange : Code → Bool
 | .seq x y => noRange x && noRange y
 | .cond _ y z => noRange y && noRange z
 | .block _ b => noRange b
 | .loop b => noRange b
 | .scope b => noRange b
 | .rangeFunc .. => false
 | _ => true
def roOK (ro : Option Nat) (b : Code) : Prop := ro = none ∨ noRange b = true
theorem roOK.seq {ro : Option Nat} {x y : Code} (h : roOK ro (.seq x y)) : roOK ro x ∧ roOK ro y := by
 rcases h with h | h
 ·exact ⟨.inl h, .inl h⟩
 ·simp only [noRange, Bool.and_eq_true] at h; exact ⟨.inr h.1, .inr h.2⟩
theorem roOK.cond {ro : Option Nat} {c : Operand} {x y : Code} (h : roOK ro (.cond c x y)) : roOK ro x ∧ roOK ro y := by
 rcases h with h | h
 ·exact ⟨.inl h, .inl h⟩
 ·simp only [noRange, Bool.and_eq_true] at h; exact ⟨.inr h.1, .inr h.2⟩
theorem roOK.block {ro : Option Nat} {id : Nat} {x : Code} (h : roOK ro (.block id x)) : roOK ro x := h.imp (fun h => h) fun h => h
theorem roOK.loop {ro : Option Nat} {x : Code} (h : roOK ro (.loop x)) : roOK ro x := h
theorem roOK.scope {ro : Option Nat} {x : Code} (h : roOK ro (.scope x)) : roOK ro x := h
def aw (P : Program) (N : Nat) (b : Code) (Q : AExit → Cfg → Prop) (c : Cfg) : Prop :=
 codeOK N b = true → P.follows .mixedOrders = true → ∀ (ro : Option Nat), roOK ro b → ∀ W0 g a w, SimA W0 g N c a w → b.wpIn (wideAt ro) 0 P (LQ W0 g N a.defers Q) a w
abbrev ALoop (P : Program) (N : Nat) (b : Code) (Q : AExit → Cfg → Prop) (c : Cfg) : Prop := aw P N (.loop b) Q c
theorem stepR_scope {P : Program} {b : Frame} {a : Act} {k : List Item} {cs : List Frame} {w : World} {c : Code} : step P (lone (b.atR a (.code (.scope c) :: k)) cs w) = .next (lone (b.atR a (.code c :: .inScope c :: k)) cs w) :=
 step_lone_go (by simp [stepG, stepG.exec, Frame.atR])
theorem stepR_inScope {P : Program} {b : Frame} {a : Act} {k : List Item} {cs : List Frame} {w : World} {c : Code} : step P (lone (b.atR a (.inScope c :: k)) cs w) = .next (lone (b.atR a k) cs w) :=
 step_lone_go (by simp [stepG, stepG.exec, Frame.atR])
theorem wpIn_scope_straight {F : Fence} {m : Nat} {P : Program} {Q : Exit → Act → World → Prop} {a : Act} {w : World} {c : Code} (h : c.wpIn F m P (Exit.noGoto Q) a w) : (Code.scope c).wpIn F m P Q a w := by
 intro b k cs hro hb hr
 have h0 : (lone (b.atR a (.code (.scope c) :: k)) cs w).fenced P F := fenced_calm hb hr rfl
 obtain ⟨e, a₁, w₁, hq, harr⟩ := h b (.inScope c :: k) cs hro hb hr
 cases e with
 | normal => exact ⟨.normal, a₁, w₁, hq, .head h0 stepR_scope (StepsIn.trans harr (.one (fenced_calm hb hr rfl) stepR_inScope))⟩
 | exit id =>
  have hx : exitTo id (.inScope c :: k) = exitTo id k := by simp [exitTo]
  exact ⟨.exit id, a₁, w₁, hq, fun k' hk => .head h0 stepR_scope (harr.1 k' (by rw [hx]; exact hk)),
   fun hr' hk => let ⟨k₁, h1, h2⟩ := harr.2 hr' (by rw [hx]; exact hk); ⟨k₁, h1, .head h0 stepR_scope h2⟩⟩
 | goto l => exact hq.elim
 | ret => exact ⟨_, a₁, w₁, hq, .of_steps (.one h0 stepR_scope) harr⟩
 | panic ch => exact ⟨_, a₁, w₁, hq, .of_steps (.one h0 stepR_scope) harr⟩
 | outgrown => exact ⟨_, a₁, w₁, hq, .of_steps (.one h0 stepR_scope) harr⟩
section
variable {P : Program} {N : Nat} {Q : AExit → Cfg → Prop} {c : Cfg}
@[congr] theorem aw_congr {c c' : Cfg} (h : c = c') (P : Program) (N : Nat) (Q : AExit → Cfg → Prop) (b : Code) : aw P N b Q c = aw P N b Q c' := by rw [h]
theorem go_skip (h : Q .normal c) : aw P N .skip Q c := fun _ _ _ _ _ g _ _ hS => wpIn_skip ⟨c, g, g.le_refl, hS, .refl _ _ _, h⟩
theorem go_label {l : Nat} (h : Q .normal c) : aw P N (.label l) Q c := fun _ _ _ _ _ g _ _ hS => wpIn_label ⟨c, g, g.le_refl, hS, .refl _ _ _, h⟩
theorem go_exit {id : Nat} (h : Q (.exit id) c) : aw P N (.exit id) Q c := fun _ _ _ _ _ g _ _ hS => wpIn_exit ⟨c, g, g.le_refl, hS, .refl _ _ _, h⟩
theorem go_ret (h : Q .ret c) : aw P N .ret Q c := fun _ _ _ _ _ g _ _ hS => wpIn_ret ⟨c, g, g.le_refl, hS, .refl _ _ _, h⟩
theorem go_seq {x y : Code} (h : aw P N x (aThen (aw P N y Q) Q) c) : aw P N (.seq x y) Q c := fun hok hmix ro hro W0 g a w hS => by
 simp only [codeOK, Bool.and_eq_true] at hok
 refine wpIn_seq (wpIn_mono (h hok.1 hmix ro hro.seq.1 W0 g a w hS) fun e a' w' hq => ?_)
 obtain ⟨c', g', hle, hS', hM, hq⟩ := hq
 cases e with
 | normal => exact wpIn_mono (hq hok.2 hmix ro hro.seq.2 W0 g' a' w' hS') fun e a w hq => hq.mono hle hM
 | exit id => exact ⟨c', g', hle, hS', hM, hq⟩
 | ret => exact ⟨c', g', hle, hS', hM, hq⟩
 | goto => exact hq.elim
 | panic => exact hq.elim
 | outgrown => exact hq.elim
theorem go_cond {x : Operand} {y z : Code} {b : Bool} (hv : aeval c.s x = .lit (.bool b)) (h1 : b = true → aw P N y Q c) (h2 : b = false → aw P N z Q c) : aw P N (.cond x y z) Q c := fun hok hmix ro hro W0 g a w hS => by
 simp only [codeOK, Bool.and_eq_true] at hok
 have hr := hS.eval hok.1.1
 rw [hv] at hr
 exact wpIn_cond_split (rep_lit_inv hr) (fun hb' => h1 hb' hok.1.2 hmix ro hro.cond.1 W0 g a w hS) (fun hb' => h2 hb' hok.2 hmix ro hro.cond.2 W0 g a w hS)
theorem go_condT {x : Operand} {y z : Code} (hv : aeval c.s x = .lit (.bool true)) (h : aw P N y Q c) : aw P N (.cond x y z) Q c := go_cond hv (fun _ => h) (fun h => by cases h)
theorem go_condF {x : Operand} {y z : Code} (hv : aeval c.s x = .lit (.bool false)) (h : aw P N z Q c) : aw P N (.cond x y z) Q c := go_cond hv (fun h => by cases h) (fun _ => h)
theorem go_block {id : Nat} {b : Code} (h : aw P N b (aBlk id Q) c) : aw P N (.block id b) Q c := fun hok hmix ro hro W0 g a w hS => by
 refine wpIn_block (wpIn_mono (h hok hmix ro hro.block W0 g a w hS) fun e a' w' hq => ?_)
 obtain ⟨c', g', hle, hS', hM, hq⟩ := hq
 cases e with
 | normal => exact ⟨c', g', hle, hS', hM, hq⟩
 | exit id' =>
  simp only [aBlk] at hq
  simp only [Exit.inBlock]
  split at hq
  ·rename_i he; rw [if_pos he]; exact ⟨c', g', hle, hS', hM, hq⟩
  ·rename_i he; rw [if_neg he]; exact ⟨c', g', hle, hS', hM, hq⟩
 | ret => exact ⟨c', g', hle, hS', hM, hq⟩
 | goto => exact hq.elim
 | panic => exact hq.elim
 | outgrown => exact hq.elim
theorem go_scope {b : Code} (h : aw P N b Q c) : aw P N (.scope b) Q c := fun hok hmix ro hro W0 g a w hS => by
 refine wpIn_scope_straight (wpIn_mono (h hok hmix ro hro.scope W0 g a w hS) fun e a' w' hq => ?_)
 obtain ⟨c', g', hle, hS', hM, hq⟩ := hq
 cases e with
 | normal => exact ⟨c', g', hle, hS', hM, hq⟩
 | exit id => exact ⟨c', g', hle, hS', hM, hq⟩
 | ret => exact ⟨c', g', hle, hS', hM, hq⟩
 | goto => exact hq.elim
 | panic => exact hq.elim
 | outgrown => exact hq.elim
theorem go_region {id : Nat} {l : List Oper} {draw : Bool} {s : Slots} {σ : Nat → Ent} {n n' : Nat} (hn : n + l.length = n') (h : aops P l.toArray n l 0 [] (kReg l.toArray draw Q) ⟨s, σ, n'⟩) : aw P N (.region id l.toArray draw) Q ⟨s, σ, n⟩ := fun hok hmix ro hro W0 g a w hS => by
 subst hn
 simp only [codeOK, Bool.and_eq_true, Bool.or_eq_true, Bool.not_eq_true'] at hok
 exact wp_region_ab hmix hok.1 (fun hd => hok.2.resolve_left (by simp [hd])) hS h fun c g' a w hg hs hd hq => ⟨c, g', hg, hs, .of_eq hd, hq⟩
theorem go_loop {b : Code} (h : ALoop P N b Q c) : aw P N (.loop b) Q c := h
theorem go_ghost {b : Code} {c' : Cfg} (hg : ∀ W0 g a w, SimA W0 g N c a w → ∃ g', g.le g' ∧ SimA W0 g' N c' a w) (h : aw P N b Q c') : aw P N b Q c := fun hok hmix ro hro W0 g a w hS => by
 obtain ⟨g', hle, hS'⟩ := hg W0 g a w hS
 exact wpIn_mono (h hok hmix ro hro W0 g' a w hS') fun e a w hq => hq.mono hle (.refl _ _ _)
theorem go_mid {b : Code} {Q' : AExit → Cfg → Prop} (h : aw P N b Q' c) (hq : ∀ e c', Q' e c' → Q e c') : aw P N b Q c := fun hok hmix ro hro W0 g a w hS =>
 wpIn_mono (h hok hmix ro hro W0 g a w hS) fun e a w ⟨c', g', hle, hS', hM, hQ⟩ => ⟨c', g', hle, hS', hM, by cases e <;> first | exact hq _ _ hQ | exact hQ.elim⟩
end
theorem wp_loop_ghost {F : Fence} {m : Nat} {P : Program} {Q : Exit → Act → World → Prop} {a : Act} {w : World} {c : Code} {X : Type} (I : X → Act → World → Prop) (μ : X → Nat) (x : X) (h₀ : I x a w)
  (round : ∀ x a w, I x a w → c.wpIn F m P (Exit.then (fun a' w' => ∃ y, I y a' w' ∧ μ y < μ x) Q) a w) : (Code.loop c).wpIn F m P Q a w := by
 intro b k cs hro hb hr
 have key : ∀ n x a w, μ x = n → I x a w →
   ∃ e a' w', Q e a' w' ∧ ArrivesIn (Machine.fenced P F) P (lone (b.atR a (.code c :: .inLoop c :: k)) cs w) b k cs e a' w' := by
  intro n
  induction n using Nat.strongRecOn with
  | _ n ih =>
   intro x a w hn hI
   obtain ⟨e, a₁, w₁, hq, harr⟩ := round x a w hI b (.inLoop c :: k) cs hro hb hr
   cases e with
   | normal =>
    obtain ⟨y, hI₁, hlt⟩ := hq
    obtain ⟨e₂, a₂, w₂, hq₂, harr₂⟩ := ih (μ y) (hn ▸ hlt) y a₁ w₁ rfl hI₁
    exact ⟨e₂, a₂, w₂, hq₂, .of_steps (StepsIn.trans harr (.one (fenced_calm hb hr rfl) stepR_inLoop)) harr₂⟩
   | exit id => exact ⟨_, a₁, w₁, hq, .pass (x := .inLoop c) rfl (fun _ _ => .inl (by simp)) harr⟩
   | goto l => exact ⟨_, a₁, w₁, hq, .pass (x := .inLoop c) rfl (fun _ _ => .inl (by simp)) harr⟩
   | ret => exact ⟨_, a₁, w₁, hq, .pass (x := .inLoop c) rfl (fun _ _ => .inl (by simp)) harr⟩
   | panic ch => exact ⟨_, a₁, w₁, hq, .pass (x := .inLoop c) rfl (fun _ _ => .inl (by simp)) harr⟩
   | outgrown => exact ⟨_, a₁, w₁, hq, .pass (x := .inLoop c) rfl (fun _ _ => .inl (by simp)) harr⟩
 obtain ⟨e, a', w', hq, harr⟩ := key _ x a w rfl h₀
 exact ⟨e, a', w', hq, .of_steps (.one (fenced_calm hb hr rfl) stepR_loop) harr⟩
theorem aloop {P : Program} {N : Nat} {b : Code} {Q : AExit → Cfg → Prop} {c : Cfg} (_hmix : P.follows .mixedOrders = true) (_hok : codeOK N b = true) (I : Cfg → Prop) (μ : Cfg → Nat) (h0 : I c)
  (round : ∀ c, I c → aw P N b (aThen (fun c' => I c' ∧ μ c' < μ c) Q) c) : ALoop P N b Q c := by
 intro hok hmix ro hro W0 g a w hS
 refine wp_loop_ghost (X := Cfg) (fun x a' w => ∃ g', g.le g' ∧ SimA W0 g' N x a' w ∧ Marks g g' a.defers a'.defers ∧ I x) μ c ⟨g, g.le_refl, hS, .refl _ _ _, h0⟩ fun x a w ⟨g', hle, hS', hM, hI⟩ => ?_
 refine wpIn_mono (round x hI hok hmix ro hro.loop W0 g' a w hS') fun e a' w' ⟨c', g'', hle', hS'', hM', hq⟩ => ?_
 cases e with
 | normal => exact ⟨c', ⟨g'', hle.trans hle', hS'', hM.trans hle hle' hM', hq.1⟩, hq.2⟩
 | exit id => exact ⟨c', g'', hle.trans hle', hS'', hM.trans hle hle' hM', hq⟩
 | ret => exact ⟨c', g'', hle.trans hle', hS'', hM.trans hle hle' hM', hq⟩
 | goto => exact hq.elim
 | panic => exact hq.elim
 | outgrown => exact hq.elim

mutual
def AV.ren (f : Nat → Option Nat) : AV → AV
 | .any => .any
 | .lit v => .lit v
 | .nils => .nils
 | .slice own xs => .slice (own.bind f) (AV.renl f xs)
 | .agg xs => .agg (AV.renl f xs)
 | .ptr id p o => match f id with
  | some j => .ptr j p o
  | none => .any
 | .view x => .view (AV.ren f x)
 | .fn g xs => .fn g (AV.renl f xs)
 | .tup xs => .tup (AV.renl f xs)
 | .clip xs => .clip (AV.renl f xs)
 | .ms id ver size lo len => match f id with
  | some j => .ms j ver size lo len
  | none => .any
 | .mp id ver p o => match f id with
  | some j => .mp j ver p o
  | none => .any
 | .bs id p lo o len => match f id with
  | some j => .bs j p lo o len
  | none => .any
 | .iface t x => .iface t (AV.ren f x)
def AV.renl (f : Nat → Option Nat) : List AV → List AV
 | [] => []
 | x :: r => AV.ren f x :: AV.renl f r
end
theorem AV.renl_map (f : Nat → Option Nat) (xs : List AV) : AV.renl f xs = xs.map (AV.ren f) := by
 induction xs with
 | nil => rfl
 | cons x r ih => simp [AV.renl, ih]
def Ent.ren (f : Nat → Option Nat) : Ent → Ent
 | .none => .none
 | .box t x => .box t (x.ren f)
 | .fbox t x => .fbox t (x.ren f)
 | .row e s n => .row e s n
 | .mrow ver e s xs => .mrow ver e s (AV.renl f xs)
 | .glob h x => .glob h (x.ren f)
 | .mark => .mark
 | .loop l N r s => .loop l N r (fun t => (s t).ren f)
theorem renl_at {f : Nat → Option Nat} {xs : List AV} {i : Nat} {x : AV} (h : (AV.renl f xs)[i]? = some x) : ∃ y, xs[i]? = some y ∧ x = y.ren f := by
 rw [AV.renl_map, List.getElem?_map] at h
 cases hy : xs[i]? with
 | none => rw [hy] at h; cases h
 | some y => rw [hy] at h; cases h; exact ⟨y, rfl, rfl⟩
theorem Rep.ren {g g2 : Ghost} {f : Nat → Option Nat} (hG : ∀ b o u, g.G b o = some u → g2.G b o = some u) (hl : ∀ id j, f id = some j → ∀ b, g.loc id = some b → g2.loc j = some b) (hr : ∀ id j, f id = some j → ∀ u, g.row id = some u → g2.row j = some u) (hm : ∀ id j, f id = some j → ∀ u, g.mr id = some u → g2.mr j = some u)
  {x : AV} {v : Value} (h : Rep g x v) : Rep g2 (x.ren f) v := by
 induction h with
 | any v h => exact .any v h
 | lit v h => exact .lit v h
 | nils => exact .nils
 | slice own xs vs A c size hvl hc hmx _ hs hcell hown ih =>
  have hlen : (AV.renl f xs).length = xs.length := by rw [AV.renl_map, List.length_map]
  have := Rep.slice (g := g2) (own.bind f) (AV.renl f xs) vs A c size (by rw [hlen]; exact hvl) (by rw [hlen]; exact hc) hmx (fun i x v hx hv => by obtain ⟨y, hy, rfl⟩ := renl_at hx; exact ih i y v hy hv) hs
   (by rw [hlen]; exact hcell.imp id fun ⟨b, o, hA, hG'⟩ => ⟨b, o, hA, fun j u hu => hG _ _ _ (hG' j u hu)⟩) (fun id hid => by
    cases own with
    | none => cases hid
    | some i =>
     obtain ⟨u, h1, h2, h3⟩ := hown i rfl
     exact ⟨u, hr i id hid u h1, by rw [hlen]; exact h2, fun he => by rw [hlen] at he ⊢; exact h3 he⟩)
  rw [hlen] at this
  exact this
 | agg xs vs hvl _ ih => exact .agg (AV.renl f xs) vs (by rw [AV.renl_map, List.length_map]; exact hvl) fun i x v hx hv => by obtain ⟨y, hy, rfl⟩ := renl_at hx; exact ih i y v hy hv
 | ptr id path off b h =>
  simp only [AV.ren]
  split
  ·rename_i j hj; exact .ptr j path off b (hl id j hj b h)
  ·exact .any _ rfl
 | view x v b o _ hc ih => exact .view _ v b o ih fun j u hu => hG _ _ _ (hc j u hu)
 | fn k xs vs hvl _ ih => exact .fn k (AV.renl f xs) vs (by rw [AV.renl_map, List.length_map]; exact hvl) fun i x v hx hv => by obtain ⟨y, hy, rfl⟩ := renl_at hx; exact ih i y v hy hv
 | tup xs vs hvl _ ih => exact .tup (AV.renl f xs) vs (by rw [AV.renl_map, List.length_map]; exact hvl) fun i x v hx hv => by obtain ⟨y, hy, rfl⟩ := renl_at hx; exact ih i y v hy hv
 | clip xs A n _ ih => exact .clip _ A n ih
 | ms id ver size lo len ver' u A c hmr hv hlc hc h =>
  simp only [AV.ren]
  split
  ·rename_i j hj; exact .ms j ver size lo len ver' u A c (hm id j hj _ hmr) hv hlc hc h
  ·exact .any _ rfl
 | mp id ver path off ver' u a hmr hv h =>
  simp only [AV.ren]
  split
  ·rename_i j hj; exact .mp j ver path off ver' u a (hm id j hj _ hmr) hv h
  ·exact .any _ rfl
 | bs id path lo off len b c h hlc hc =>
  simp only [AV.ren]
  split
  ·rename_i j hj; exact .bs j path lo off len b c (hl id j hj b h) hlc hc
  ·exact .any _ rfl
 | iface t x v _ ih => exact .iface t _ v ih
theorem renl_id {f : Nat → Option Nat} {xs : List AV} (h : ∀ (i : Nat) (x : AV), xs[i]? = some x → x.ren f = x) : AV.renl f xs = xs := by
 rw [AV.renl_map]
 apply List.ext_getElem?
 intro i
 rw [List.getElem?_map]
 cases hx : xs[i]? with
 | none => rfl
 | some x => simp [h i x hx]
theorem Rep.ren_id {g : Ghost} {f : Nat → Option Nat} (hl : ∀ id b, g.loc id = some b → f id = some id) (hr : ∀ id u, g.row id = some u → f id = some id) (hmr : ∀ id u, g.mr id = some u → f id = some id) {x : AV} {v : Value} (h : Rep g x v) : x.ren f = x := by
 have sub : ∀ {xs : List AV} {vs : List Value}, vs.length = xs.length → (∀ (i : Nat) (x : AV) (v : Value), xs[i]? = some x → vs[i]? = some v → x.ren f = x) → AV.renl f xs = xs := fun {xs vs} hvl ih =>
  renl_id fun i x hx => by
   have hlt : i < vs.length := by rw [hvl]; exact (List.getElem?_eq_some_iff.1 hx).1
   exact ih i x _ hx (List.getElem?_eq_getElem hlt)
 induction h with
 | any v h => rfl
 | lit v h => rfl
 | nils => rfl
 | slice own xs vs A c size hvl hc hm _ hs hcell hown ih =>
  simp only [AV.ren, sub hvl ih]
  cases own with
  | none => rfl
  | some i =>
   obtain ⟨u, h1, _⟩ := hown i rfl
   simp [hr i u h1]
 | agg xs vs hvl _ ih => simp only [AV.ren, sub hvl ih]
 | ptr id path off b h => simp only [AV.ren, hl id b h]
 | view x v b o _ hc ih => simp only [AV.ren, ih]
 | fn k xs vs hvl _ ih => simp only [AV.ren, sub hvl ih]
 | tup xs vs hvl _ ih => simp only [AV.ren, sub hvl ih]
 | clip xs A n _ ih => simp only [AV.ren, AV.slice.injEq] at ih ⊢; rw [ih.2]
 | ms id ver size lo len ver' u A c hm hv hl hc h => simp only [AV.ren, hmr id _ hm]
 | mp id ver path off ver' u a hm hv h => simp only [AV.ren, hmr id _ hm]
 | bs id path lo off len b c h hlc hc => simp only [AV.ren, hl id b h]
 | iface t x v _ ih => simp only [AV.ren, ih]
theorem EntOK.ren {W0 : World} {g g2 : Ghost} {w : World} {f : Nat → Option Nat} {i j : Nat} {E : Ent} (h : EntOK W0 g w i E) (hG : g2.G = g.G) (hl : g2.loc j = g.loc i) (hr : g2.row j = g.row i) (ho : g2.own j = g.own i) (hm : g2.mr j = g.mr i)
  (hrep : ∀ x v, Rep g x v → Rep g2 (x.ren f) v) : EntOK W0 g2 w j (E.ren f) := by
 cases E with
 | none => exact ⟨hl.trans h.1, hr.trans h.2.1, ho.trans h.2.2.1, hm.trans h.2.2.2⟩
 | glob q x =>
  obtain ⟨k1, k2, k3, ⟨u, k4, k5⟩, k6⟩ := h
  exact ⟨hl.trans k1, hr.trans k2, ho.trans k3, ⟨u, hm.trans k4, k5⟩, hrep (.view x) _ k6⟩
 | mark =>
  obtain ⟨k1, k2, b, u, k3, k4, k5, k6⟩ := h
  exact ⟨ho.trans k1, hm.trans k2, b, u, hl.trans k3, hr.trans k4, k5, fun o => by rw [hG]; exact k6 o⟩
 | loop l N r s =>
  obtain ⟨k1, k2, ⟨u, k3⟩, k4, ⟨T, k5, k6, k7⟩, k8⟩ := h
  exact ⟨ho.trans k1, hr.trans k2, ⟨u, hm.trans k3⟩, hl.trans k4, ⟨T, k5, fun t => hrep _ _ (k6 t), k7⟩, fun o => by rw [hG]; exact k8 o⟩
 | box t x =>
  obtain ⟨k1, k2, k3, b, v, k4, k5, k6, k7⟩ := h
  exact ⟨hr.trans k1, ho.trans k2, hm.trans k3, b, v, hl.trans k4, hrep _ _ k5, k6, fun o => by rw [hG]; exact k7 o⟩
 | fbox t x =>
  obtain ⟨k1, k2, k3, b, v, k4, k5, k6, k7⟩ := h
  exact ⟨hr.trans k1, ho.trans k2, hm.trans k3, b, v, hl.trans k4, hrep _ _ k5, k6, fun o => by rw [hG]; exact k7 o⟩
 | row e size k =>
  obtain ⟨k1, u, cells, k3, k4, k5⟩ := h
  refine ⟨hl.trans k1, u, cells, hr.trans k3, k4, ?_⟩
  rw [ho, hG]
  exact k5
 | mrow ver e size xs =>
  obtain ⟨k1, k2, k3, u, vs, k4, k5, k6, k7, k8, k9, k10⟩ := h
  have hlen : (AV.renl f xs).length = xs.length := by rw [AV.renl_map, List.length_map]
  refine ⟨hl.trans k1, hr.trans k2, ho.trans k3, u, vs, hm.trans k4, by rw [hlen]; exact k5, by rw [hlen]; exact k6, fun i x v hx hv => ?_, k8, by rw [hlen]; exact k9, by rw [hG]; exact k10⟩
  obtain ⟨y, hy, rfl⟩ := renl_at hx
  exact hrep _ _ (k7 i y v hy hv)
theorem EntOK.ren_id {W0 : World} {g : Ghost} {w : World} {f : Nat → Option Nat} {i : Nat} {E : Ent} (h : EntOK W0 g w i E) (hrep : ∀ x v, Rep g x v → x.ren f = x) : E.ren f = E := by
 cases E with
 | none => rfl
 | glob q x => have := hrep (.view x) _ h.2.2.2.2; simp only [AV.ren, AV.view.injEq] at this; simp only [Ent.ren, this]
 | box t x => obtain ⟨_, _, _, b, v, _, k5, _⟩ := h; simp only [Ent.ren, hrep _ _ k5]
 | fbox t x => obtain ⟨_, _, _, b, v, _, k5, _⟩ := h; simp only [Ent.ren, hrep _ _ k5]
 | row e size k => rfl
 | mark => rfl
 | loop l N r s =>
  obtain ⟨_, _, _, _, ⟨T, _, k6, _⟩, _⟩ := h
  simp only [Ent.ren]
  have : (fun t => (s t).ren f) = s := funext fun t => hrep _ _ (k6 t)
  rw [this]
 | mrow ver e size xs =>
  obtain ⟨_, _, _, u, vs, _, _, k6, k7, _⟩ := h
  simp only [Ent.ren]
  rw [renl_id fun i x hx => ?_]
  have hlt : i < vs.length := by rw [k6]; exact (List.getElem?_eq_some_iff.1 hx).1
  exact hrep _ _ (k7 i x _ hx (List.getElem?_eq_getElem hlt))
def callable (P : Program) (f : FuncId) : Bool :=
 match P.funcs[f]? with
 | some fn => !(fn.name == "runtime.NumGoroutine") && fn.body.isSome
 | none => false
def ACall (P : Program) (f : FuncId) (args : List AV) (k : Nat) (pre : Foot) (r : AV) (post : Foot) : Prop :=
 callable P f = true ∧ (∀ p ∈ pre, p.2 ≠ .none) ∧ (∀ q ∈ post, q.1 = k ∨ ∃ p ∈ pre, p.1 = q.1) ∧
 ∀ (W0 : World) (g : Ghost) (σ : Nat → Ent) (n : Nat) (w : World) (vals : List Value), Sim W0 g σ n w → vals.length = args.length → (∀ (i : Nat) (x : AV) (v : Value), args[i]? = some x → vals[i]? = some v → Rep g x v) →
  σ k = .none → k < n → (∀ p ∈ pre, σ p.1 = p.2) →
  Calls P f vals.toArray w fun e w' => ∃ u, e = .returned u ∧ ∃ g', g.le g' ∧ Sim W0 g' (wr σ post) n w' ∧ Rep g' r u
section
variable {P : Program} {o : Oper} {s : Slots} {id : Nat}
theorem run_callFunc {f : FuncId} {args : Array Value} {w : World} (h : callable P f = true) : (callFunc f args).run P w = .ok (.enter f args) w := by
 unfold callable at h
 split at h
 ·rename_i fn hfn
  simp only [Bool.and_eq_true, Bool.not_eq_true'] at h
  unfold callFunc
  simp only [Sem.run_bind, run_program, Result.andThen_ok, hfn]
  rw [if_neg (by simp [h.1])]
  cases hb : fn.body with
  | none => rw [hb] at h; simp at h
  | some c => simp
 ·cases h
theorem holds_call {x : Operand} {args : Array Operand} {ts : Array TypeId} {f : FuncId} {caps : List AV} {pre post : Foot} {r : AV} (ho : o.op = .call { callee := .value x, args := args, argTypes := ts }) (hx : aeval s x = .fn f caps)
  (h : ACall P f (args.toList.map (aeval s) ++ caps) id pre r post) : OpHolds P o s id pre r post := by
 obtain ⟨hc, hp, hq, hrun⟩ := h
 refine ⟨hp, hq, fun W0 g σ n w a hS hr hf hn hpre => ?_⟩
 have h1 := hr x (by simp [ho, Op.operands, Call.operands])
 have h2 : ∀ y ∈ args, Rep g (aeval s y) (a.eval y) := fun y hy => hr y (by simp [ho, Op.operands, Call.operands, hy])
 rw [hx] at h1
 generalize hv : a.eval x = v at h1
 cases h1 with
 | fn _ _ vs hvl hvr =>
  have hexec : (execOp a.eval o).run P w = .ok (.enter f ((args.toList.map a.eval ++ vs).toArray)) w := by
   simp only [execOp, ho, resolve, hv, Deferred.ofValue, Sem.run_bind, Sem.run_pure, Result.andThen_ok, invoke]
   rw [run_callFunc hc]
   congr 2
   simp [← Array.toList_map]
  unfold runsTo
  rw [hexec]
  refine (hrun W0 g σ n w (args.toList.map a.eval ++ vs) hS (by simp [hvl]) (fun i y u hy hu => ?_) hf hn hpre).mono fun e w' h => h
  by_cases hi : i < args.toList.length
  ·rw [List.getElem?_append_left (by simpa using hi), List.getElem?_map] at hy hu
   cases hz : args.toList[i]? with
   | none => rw [hz] at hy; cases hy
   | some z =>
    rw [hz] at hy hu
    cases hy; cases hu
    exact h2 z (by have := List.mem_of_getElem? hz; simpa using this)
  ·rw [List.getElem?_append_right (by simpa using hi)] at hy hu
   simp only [List.length_map] at hy hu
   exact hvr _ y u hy hu
theorem astepX_call {c : Cfg} {k : Step → Prop} {x : Operand} {args : Array Operand} {ts : Array TypeId} {f : FuncId} {caps : List AV} {pre post : Foot} {r : AV} (ho : o.op = .call { callee := .value x, args := args, argTypes := ts }) (hx : aeval c.s x = .fn f caps)
  (h : ACall P f (args.toList.map (aeval c.s) ++ caps) id pre r post) (hp : ∀ p ∈ pre, c.σ p.1 = p.2) (hk : k ⟨pre, r, post⟩) : AStepX P o c id k :=
 ⟨⟨pre, r, post⟩, ⟨holds_call ho hx h, hp⟩, hk⟩
end
def initS (args : List AV) : Slots := fun t => args.getD t (.tup [])
theorem initS_zero (a : AV) (l : List AV) : initS (a :: l) 0 = a := rfl
theorem initS_succ (a : AV) (l : List AV) (n : Nat) : initS (a :: l) (n + 1) = initS l n := rfl
theorem initS_nil (n : Nat) : initS [] n = .tup [] := rfl
def aresult1 (P : Program) (c : Cfg) : ResultVar → Option AV
 | .tmp t => some (c.s t)
 | .cell a t => match c.s a with
  | .ptr i p q => match evBox c.σ i with
   | some (_, x, _) => match x.get p with
    | some y => if x.offs p = q ∧ tyInfo P t = some (y.isAgg, y.sz) then some y else none
    | none => none
   | none => none
  | _ => none
def aresultL (P : Program) (c : Cfg) : List ResultVar → Option (List AV)
 | [] => some []
 | x :: r => match aresult1 P c x, aresultL P c r with
  | some y, some ys => some (y :: ys)
  | _, _ => none
def aresults (P : Program) (c : Cfg) (rs : List ResultVar) : Option AV :=
 match aresultL P c rs with
 | some [x] => some x
 | some xs => some (.tup xs)
 | none => none
def Ent.plain : Ent → Bool
 | .mark => false
 | _ => true
def rn (n0 k : Nat) (fresh : Option Nat) : Nat → Option Nat := fun id => if id < n0 then some id else if fresh = some id then some k else none
theorem rn_out {n0 k id : Nat} {fresh : Option Nat} (h : n0 ≤ id) (hne : fresh ≠ some id) : rn n0 k fresh id = none := by simp [rn, Nat.not_lt.2 h, hne]
def renF (f : Nat → Option Nat) (ws : Foot) : Foot := ws.map fun q => (q.1, q.2.ren f)
def ARet (P : Program) (rs : List ResultVar) (k : Nat) (σ0 : Nat → Ent) (n0 : Nat) (pre : Foot) (r : AV) (post : Foot) (c : Cfg) : Prop :=
 ∃ (r0' r' : AV) (ws : Foot) (fresh : Option Nat), aresults P c rs = some r0' ∧ AV.le r0' r' ∧ r = r'.ren (rn n0 k fresh) ∧ (∀ id, id < n0 → c.σ id = wr σ0 ws id) ∧ (∀ q ∈ ws, ∃ p ∈ pre, p.1 = q.1) ∧
  (match fresh with
   | some r0 => n0 ≤ r0 ∧ post = renF (rn n0 k (some r0)) ws ++ [(k, (c.σ r0).ren (rn n0 k (some r0)))] ∧ (c.σ r0).plain = true
   | none => post = renF (rn n0 k none) ws)
def aRet (P : Program) (rs : List ResultVar) (k : Nat) (σ0 : Nat → Ent) (n0 : Nat) (pre : Foot) (r : AV) (post : Foot) : AExit → Cfg → Prop
 | .exit _, _ => False
 | _, c => ARet P rs k σ0 n0 pre r post c
def resVal (a : Act) : ResultVar → Sem Value
 | .tmp t => pure (a.tmps.getD t undef)
 | .cell b t => do loadVar t (← asAddr (a.tmps.getD b undef))
theorem results_eq (fn : Func) (a : Act) : results fn a.tmps = (do let vs ← fn.results.mapM (resVal a); pure (if h : vs.size = 1 then vs[0] else .tuple vs)) := by
 unfold results
 have : (fun (x : ResultVar) => (match x with
  | .tmp t => pure (a.tmps.getD t undef)
  | .cell b t => do loadVar t (← asAddr (a.tmps.getD b undef)) : Sem Value)) = resVal a := by
  funext x; cases x <;> rfl
 rw [← this]
 rfl
@[congr] theorem aRet_congr {c c' : Cfg} (h : c = c') (P : Program) (rs : List ResultVar) (k : Nat) (σ0 : Nat → Ent) (n0 : Nat) (pre : Foot) (r : AV) (post : Foot) (e : AExit) : aRet P rs k σ0 n0 pre r post e c = aRet P rs k σ0 n0 pre r post e c' := by rw [h]
theorem aresult1_sound {P : Program} {W0 : World} {g : Ghost} {N : Nat} {c : Cfg} {a : Act} {w : World} (hS : SimA W0 g N c a w) {w2 : World} (hh : ∀ i b, g.loc i = some b → (c.σ i).plain = true → w2.heap[b]? = w.heap[b]?) {x : ResultVar} {y : AV} (h : aresult1 P c x = some y) :
  ∃ u, Rep g y u ∧ (resVal a x).run P w2 = .ok u w2 := by
 cases x with
 | tmp t =>
  simp only [aresult1, Option.some.injEq] at h
  subst h
  exact ⟨_, hS.slots t, rfl⟩
 | cell b t =>
  have hr := hS.slots b
  simp only [aresult1] at h
  split at h
  ·rename_i i p q hb
   rw [hb] at hr
   split at h
   ·rename_i bt x bb hbox
    split at h
    ·rename_i y' hy
     split at h
     ·rename_i hc
      cases h
      generalize hv : a.tmps.getD b undef = v at hr
      cases hr with
      | ptr _ _ _ blk hblk =>
       have key : ∃ v, Rep g x v ∧ w2.heap[blk]? = some (.cells v.cells bt (0, 0)) := by
        rcases evBox_sound hbox with ⟨_, he⟩ | ⟨_, he⟩
        ·obtain ⟨b', v, h1, _, h3, h4, _⟩ := hS.sim.box i bt x he
         rw [hblk] at h1; cases h1; exact ⟨v, h3, (hh i blk hblk (by rw [he]; rfl)).trans h4⟩
        ·obtain ⟨b', v, h1, _, h3, h4, _⟩ := hS.sim.fbox i bt x he
         rw [hblk] at h1; cases h1; exact ⟨v, h3, (hh i blk hblk (by rw [he]; rfl)).trans h4⟩
       obtain ⟨v, hrep, hheap⟩ := key
       obtain ⟨u, hu, _, hcu⟩ := hrep.get hy
       refine ⟨u, hu, ?_⟩
       have := run_loadAt (P := P) hu (tyInfo_sound hc.2).1 (b := blk) (off := q) (w := w2) fun j z hz => by
        rw [cell_of_row w2 blk _ _ _ _ hheap, ← Array.getElem?_toList, ← hc.1]
        exact hcu j z hz
       simp only [Instr.loadAt, Instr.sureAddr, Sem.run_bind, Sem.run_pure, Result.andThen_ok] at this
       simp only [resVal, hv, asAddr, Sem.run_bind, Sem.run_pure, Result.andThen_ok, this]
     ·cases h
    ·cases h
   ·cases h
  ·cases h
theorem aresultL_sound {P : Program} {W0 : World} {g : Ghost} {N : Nat} {c : Cfg} {a : Act} {w : World} (hS : SimA W0 g N c a w) {w2 : World} (hh : ∀ i b, g.loc i = some b → (c.σ i).plain = true → w2.heap[b]? = w.heap[b]?) : ∀ {rs : List ResultVar} {ys : List AV}, aresultL P c rs = some ys →
  ∃ us : List Value, us.length = ys.length ∧ (∀ (i : Nat) (x : AV) (v : Value), ys[i]? = some x → us[i]? = some v → Rep g x v) ∧ (rs.mapM (resVal a)).run P w2 = .ok us w2
 | [], ys, h => by simp [aresultL] at h; subst h; exact ⟨[], rfl, fun i x v h _ => by simp at h, by simp⟩
 | x :: r, ys, h => by
  simp only [aresultL] at h
  split at h
  ·rename_i y ys' h1 h2
   cases h
   obtain ⟨u, hu, hrun⟩ := aresult1_sound hS hh h1
   obtain ⟨us, k1, k2, k3⟩ := aresultL_sound hS hh h2
   refine ⟨u :: us, by simp [k1], fun i x v hx hv => ?_, ?_⟩
   ·cases i with
    | zero => simp at hx hv; subst hx; subst hv; exact hu
    | succ i => exact k2 i x v (by simpa using hx) (by simpa using hv)
   ·simp only [List.mapM_cons, Sem.run_bind, Sem.run_pure]
    rw [hrun]
    simp only [Result.andThen_ok]
    rw [k3]
    rfl
  ·cases h
theorem aresults_sound {P : Program} {W0 : World} {g : Ghost} {N : Nat} {c : Cfg} {a : Act} {w : World} (hS : SimA W0 g N c a w) {w2 : World} (hh : ∀ i b, g.loc i = some b → (c.σ i).plain = true → w2.heap[b]? = w.heap[b]?) {fn : Func} {y : AV} (h : aresults P c fn.results.toList = some y) :
  ∃ u, Rep g y u ∧ (results fn a.tmps).run P w2 = .ok u w2 := by
 unfold aresults at h
 have key : ∀ ys, aresultL P c fn.results.toList = some ys → ∃ us : List Value, us.length = ys.length ∧ (∀ (i : Nat) (x : AV) (v : Value), ys[i]? = some x → us[i]? = some v → Rep g x v) ∧
   (results fn a.tmps).run P w2 = .ok (if h : us.toArray.size = 1 then us.toArray[0] else .tuple us.toArray) w2 := by
  intro ys hys
  obtain ⟨us, k1, k2, k3⟩ := aresultL_sound hS hh hys
  refine ⟨us, k1, k2, ?_⟩
  rw [results_eq, Sem.run_bind, Array.mapM_eq_mapM_toList]
  simp only [Sem.run_map, k3, Result.andThen_ok, Sem.run_pure]
 split at h
 ·rename_i x hx
  cases h
  obtain ⟨us, k1, k2, k3⟩ := key _ hx
  match us, k1 with
  | [u], _ => exact ⟨u, k2 0 _ _ rfl rfl, by simpa using k3⟩
 ·rename_i xs hne hx
  cases h
  obtain ⟨us, k1, k2, k3⟩ := key _ hx
  have hl : us.length ≠ 1 := by
   intro he
   rw [k1] at he
   match xs, he with
   | [x], _ => exact hne x rfl
  refine ⟨.tuple us.toArray, .tup xs us k1 k2, ?_⟩
  rw [k3, dif_neg (by simpa using hl)]
 ·cases h
theorem wr_at (i : Nat) : ∀ ws : Foot, ((∀ σ : Nat → Ent, wr σ ws i = σ i) ∧ (∀ f (σ : Nat → Ent), wr σ (renF f ws) i = σ i) ∧ ∀ q ∈ ws, q.1 ≠ i) ∨
  (∃ q ∈ ws, q.1 = i ∧ (∀ σ : Nat → Ent, wr σ ws i = q.2) ∧ ∀ f (σ : Nat → Ent), wr σ (renF f ws) i = q.2.ren f)
 | [] => .inl ⟨fun _ => rfl, fun _ _ => rfl, fun q hq => (by cases hq)⟩
 | p :: r => by
  have e1 : ∀ σ : Nat → Ent, wr σ (p :: r) = wr (upd σ p.1 p.2) r := fun _ => rfl
  have e2 : ∀ f (σ : Nat → Ent), wr σ (renF f (p :: r)) = wr (upd σ p.1 (p.2.ren f)) (renF f r) := fun _ _ => rfl
  rcases wr_at i r with ⟨h1, h2, h3⟩ | ⟨q, hq, h1, h2, h3⟩
  ·by_cases hp : p.1 = i
   ·refine .inr ⟨p, List.mem_cons_self .., hp, fun σ => by rw [e1, h1, hp, upd_same], fun f σ => by rw [e2, h2, hp, upd_same]⟩
   ·refine .inl ⟨fun σ => by rw [e1, h1, upd_ne _ _ _ _ (Ne.symm hp)], fun f σ => by rw [e2, h2, upd_ne _ _ _ _ (Ne.symm hp)], fun q hq => ?_⟩
    rcases List.mem_cons.1 hq with rfl | hq
    ·exact hp
    ·exact h3 q hq
  ·exact .inr ⟨q, List.mem_cons_of_mem _ hq, h1, fun σ => by rw [e1, h2], fun f σ => by rw [e2, h3]⟩
theorem wr_append (σ : Nat → Ent) (p q : Foot) : wr σ (p ++ q) = wr (wr σ p) q := by simp [wr, List.foldl_append]
theorem Sim.leave {W0 : World} {g g' : Ghost} {σ0 σ' : Nat → Ent} {n0 n' k : Nat} {w w' : World} (hS : Sim W0 g σ0 n0 w) (hS' : Sim W0 g' σ' n' w') (hle : g.le g') (hk : σ0 k = .none) (hkn : k < n0) {ws post : Foot} {fresh : Option Nat}
  (hag : ∀ id, id < n0 → σ' id = wr σ0 ws id) (hws : ∀ q ∈ ws, σ0 q.1 ≠ .none)
  (hpost : match fresh with
   | some r0 => n0 ≤ r0 ∧ post = renF (rn n0 k (some r0)) ws ++ [(k, (σ' r0).ren (rn n0 k (some r0)))]
   | none => post = renF (rn n0 k none) ws) :
  ∃ g2, g.le g2 ∧ Sim W0 g2 (wr σ0 post) n0 w' ∧ (∀ x v, Rep g' x v → Rep g2 (x.ren (rn n0 k fresh)) v) ∧ g2.G = g'.G ∧ (∀ id b, g2.blk id = some b → ∃ i0, rn n0 k fresh i0 = some id ∧ g'.blk i0 = some b) ∧ ∀ x v, Rep g x v → x.ren (rn n0 k fresh) = x := by
 let f := rn n0 k fresh
 have hfdef : f = rn n0 k fresh := rfl
 let pick : {α : Type} → (Nat → Option α) → Nat → Option α := fun F id => if id = k then fresh.bind F else if id < n0 then F id else none
 let g2 : Ghost := { G := g'.G, loc := pick g'.loc, row := pick g'.row, own := pick g'.own, mr := pick g'.mr }
 have hlive : ∀ id, σ0 id ≠ .none → id < n0 ∧ id ≠ k := fun id hid => by
  refine ⟨?_, fun e => hid (e ▸ hk)⟩
  rcases Nat.lt_or_ge id n0 with h | h
  ·exact h
  ·exact absurd (hS.bound id h) hid
 have hloc0 : ∀ id b, g.loc id = some b → σ0 id ≠ .none := fun id b hb hn => by rw [(hS.free id hn).1] at hb; cases hb
 have hrow0 : ∀ id u, g.row id = some u → σ0 id ≠ .none := fun id u hu hn => by rw [(hS.free id hn).2.1] at hu; cases hu
 have hmr0 : ∀ id u, g.mr id = some u → σ0 id ≠ .none := fun id u hu hn => by rw [(hS.free id hn).2.2.2] at hu; cases hu
 have hk' : σ' k = .none := by
  rw [hag k hkn]
  rcases wr_at k ws with ⟨h1, _⟩ | ⟨q, hq, h1, _⟩
  ·rw [h1]; exact hk
  ·exact absurd (h1 ▸ hk) (hws q hq)
 obtain ⟨kl, kr, ko, km⟩ := hS'.free k hk'
 have hfresh_ge : ∀ r0, fresh = some r0 → n0 ≤ r0 := fun r0 hr => by subst hr; exact hpost.1
 have f_old : ∀ id, id < n0 → f id = some id := fun id h => by simp [f, rn, h]
 have f_fresh : ∀ r0, fresh = some r0 → f r0 = some k := fun r0 hr => by simp only [f, rn, if_neg (Nat.not_lt.2 (hfresh_ge r0 hr)), hr, if_true]
 have f_inv : ∀ id j, f id = some j → (id < n0 ∧ j = id) ∨ (fresh = some id ∧ j = k) := by
  intro id j hj
  simp only [f, rn] at hj
  split at hj
  ·rename_i h; cases hj; exact .inl ⟨h, rfl⟩
  ·split at hj
   ·rename_i h; cases hj; exact .inr ⟨h, rfl⟩
   ·cases hj
 have pick_old : ∀ {α : Type} (F : Nat → Option α) id, id < n0 → id ≠ k → pick F id = F id := fun F id h1 h2 => by simp only [pick, if_neg h2, if_pos h1]
 have pick_fresh : ∀ {α : Type} (F : Nat → Option α) r0, fresh = some r0 → pick F k = F r0 := fun F r0 hr => by simp [pick, hr]
 have pick_hi : ∀ {α : Type} (F : Nat → Option α) id, n0 ≤ id → pick F id = none := fun F id h => by simp only [pick, if_neg (show id ≠ k by omega), if_neg (Nat.not_lt.2 h)]
 have pick_none : ∀ {α : Type} (F : Nat → Option α), fresh = none → pick F k = none := fun F h => by simp [pick, h]
 have carry : ∀ {α : Type} (F : Nat → Option α), F k = none → ∀ id j, f id = some j → ∀ b, F id = some b → pick F j = some b := by
  intro α F hFk id j hj b hb
  rcases f_inv id j hj with ⟨h1, rfl⟩ | ⟨h1, rfl⟩
  ·have hne : j ≠ k := fun e => by rw [e, hFk] at hb; cases hb
   rw [pick_old F j h1 hne]; exact hb
  ·rw [pick_fresh F id h1]; exact hb
 have rep2 : ∀ x v, Rep g' x v → Rep g2 (x.ren f) v := fun x v h => Rep.ren (g := g') (g2 := g2) (fun b o u h => h) (carry _ kl) (carry _ kr) (carry _ km) h
 have rep_id : ∀ x v, Rep g x v → x.ren f = x := fun x v h => Rep.ren_id (fun id b hb => f_old id (hlive id (hloc0 id b hb)).1) (fun id u hu => f_old id (hlive id (hrow0 id u hu)).1) (fun id u hu => f_old id (hlive id (hmr0 id u hu)).1) h
 have hle2 : g.le g2 := by
  refine ⟨fun b o v h => hle.G b o v h, fun id b hb => ?_, fun id u hu => ?_, fun id u hu => ?_⟩
  ·obtain ⟨h1, h2⟩ := hlive id (hloc0 id b hb)
   exact (pick_old g'.loc id h1 h2).trans (hle.loc id b hb)
  ·obtain ⟨h1, h2⟩ := hlive id (hrow0 id u hu)
   obtain ⟨u', k1, k2⟩ := hle.row id u hu
   exact ⟨u', (pick_old g'.row id h1 h2).trans k1, k2⟩
  ·obtain ⟨h1, h2⟩ := hlive id (hmr0 id u hu)
   obtain ⟨u', k1, k2⟩ := hle.mr id u hu
   exact ⟨u', (pick_old g'.mr id h1 h2).trans k1, k2⟩
 have at_k : fresh = none → wr σ0 post k = .none := by
  intro hfr
  subst hfr
  have hp : post = renF (rn n0 k none) ws := hpost
  rw [hp]
  rcases wr_at k ws with ⟨_, h2, _⟩ | ⟨q, hq, h1, _⟩
  ·rw [h2]; exact hk
  ·exact absurd (h1 ▸ hk) (hws q hq)
 have at_ks : ∀ r0, fresh = some r0 → wr σ0 post k = (σ' r0).ren f := by
  intro r0 hfr
  subst hfr
  rw [hpost.2, wr_append]
  simp [wr, upd_same, hfdef]
 have at_old : ∀ id, id < n0 → id ≠ k → wr σ0 post id = (σ' id).ren f := by
  intro id hid hne
  have base : wr σ0 post id = wr σ0 (renF f ws) id := by
   cases fresh with
   | none => simp only at hpost; rw [hpost]
   | some r0 => rw [hpost.2, wr_append]; simp [wr, upd_ne _ _ _ _ hne, hfdef]
  rcases wr_at id ws with ⟨h1, h2, _⟩ | ⟨q, hq, h1, h2, h3⟩
  ·rw [base, h2, hag id hid, h1, (hS.ents id).ren_id rep_id]
  ·rw [base, h3, hag id hid, h2]
 have at_hi : ∀ id, n0 ≤ id → wr σ0 post id = .none := by
  intro id hid
  rw [wr_other]
  ·exact hS.bound id hid
  ·intro q hq e
   have hws' : ∀ q ∈ renF f ws, q.1 < n0 := fun q hq => by
    obtain ⟨p, hp, rfl⟩ := List.mem_map.1 hq
    exact (hlive p.1 (hws p hp)).1
   cases fresh with
   | none => simp only at hpost; rw [hpost] at hq; have := hws' q hq; omega
   | some r0 =>
    rw [hpost.2] at hq
    rcases List.mem_append.1 hq with hq | hq
    ·have := hws' q hq; omega
    ·simp at hq; subst hq; simp at e; omega
 have blk2 : ∀ id b, g2.blk id = some b → ∃ i0, f i0 = some id ∧ g'.blk i0 = some b := by
  intro id b hb
  by_cases hik : id = k
  ·subst hik
   cases hfr : fresh with
   | none => simp [Ghost.blk, g2, pick_none _ hfr] at hb
   | some r0 =>
    refine ⟨r0, f_fresh r0 hfr, ?_⟩
    simpa only [Ghost.blk, g2, pick_fresh _ r0 hfr] using hb
  ·by_cases hid : id < n0
   ·refine ⟨id, f_old id hid, ?_⟩
    simpa only [Ghost.blk, g2, pick_old _ id hid hik] using hb
   ·simp [Ghost.blk, g2, pick_hi _ id (Nat.not_lt.1 hid)] at hb
 refine ⟨g2, hle2, ⟨hS'.below, hS'.imm, at_hi, fun id => ?_, fun i j b hi hj => ?_, fun i b hi => ?_⟩, rep2, rfl, blk2, rep_id⟩
 ·rcases Nat.lt_or_ge id n0 with hid | hid
  ·by_cases hik : id = k
   ·subst hik
    cases hfr : fresh with
    | none => rw [at_k hfr]; exact ⟨pick_none _ hfr, pick_none _ hfr, pick_none _ hfr, pick_none _ hfr⟩
    | some r0 => rw [at_ks r0 hfr]; exact (hS'.ents r0).ren rfl (pick_fresh _ r0 hfr) (pick_fresh _ r0 hfr) (pick_fresh _ r0 hfr) (pick_fresh _ r0 hfr) rep2
   ·rw [at_old id hid hik]; exact (hS'.ents id).ren rfl (pick_old _ id hid hik) (pick_old _ id hid hik) (pick_old _ id hid hik) (pick_old _ id hid hik) rep2
  ·rw [at_hi id hid]; exact ⟨pick_hi _ id hid, pick_hi _ id hid, pick_hi _ id hid, pick_hi _ id hid⟩
 ·obtain ⟨i0, a1, a2⟩ := blk2 i b hi
  obtain ⟨j0, b1, b2⟩ := blk2 j b hj
  have := hS'.sep i0 j0 b a2 b2
  subst this
  rw [a1] at b1; injection b1
 ·obtain ⟨i0, a1, a2⟩ := blk2 i b hi
  exact hS'.fresh i0 b a2
theorem Sim.putObj {W0 : World} {g : Ghost} {σ : Nat → Ent} {n : Nat} {w : World} (h : Sim W0 g σ n w) {r : Nat} {o : Obj} (h1 : W0.heap.size ≤ r) (h2 : ∀ i, g.blk i ≠ some r) (h3 : ∀ o, g.G r o = none) : Sim W0 g σ n (w.putObj r o) where
 below := ⟨h.below.os, h.below.tape, h.below.output, by simpa using h.below.size, fun b hb => by rw [World.putObj_heap_other (by omega)]; exact h.below.block b hb⟩
 imm := fun b o' v hv => by
  have hb : b ≠ r := fun e => by rw [e, h3] at hv; cases hv
  have := h.imm b o' v hv
  unfold World.cell? at this ⊢
  simp only [World.putObj_heap_other hb]
  exact this
 bound := h.bound
 ents := fun id => (h.ents id).same g.le_refl rfl rfl rfl rfl fun b hb => ⟨World.putObj_heap_other (fun e => h2 id (e ▸ hb)), fun _ => rfl⟩
 sep := h.sep
 fresh := fun i b hb => by simpa using h.fresh i b hb
theorem leaves_marks {P : Program} {fn : Func} {tmps : Array Value} {R : Ending → World → Prop} {W0 : World} {g : Ghost} {σ : Nat → Ent} {n : Nat} : ∀ (L : List (Nat × Nat)) (w : World), (L.map (·.2)).Nodup → (∀ p ∈ L, w.heap[p.2]? = some (.deferred (some []))) → Sim W0 g σ n w →
  (∀ p ∈ L, W0.heap.size ≤ p.2 ∧ (∀ i, g.blk i ≠ some p.2) ∧ ∀ o, g.G p.2 o = none) →
  (∀ w2, Sim W0 g σ n w2 → (∀ b, b ∉ L.map (·.2) → w2.heap[b]? = w.heap[b]?) → ∃ v, (results fn tmps).run P w2 = .ok v w2 ∧ R (.returned v) w2) →
  LeavesInM Fence.wide 0 P fn tmps R (L.map mkMark) .returning w
 | [], w, _, _, hS, _, h => h w hS fun _ _ => rfl
 | p :: L, w, hn, ho, hS, hf, h => by
  obtain ⟨f1, f2, f3⟩ := hf p (List.mem_cons_self ..)
  simp only [List.map_cons, List.nodup_cons] at hn
  refine ⟨by simp, .inl ⟨p.2, w.putObj p.2 (.deferred none), rfl, run_takeDeferred (ho p (List.mem_cons_self ..)), ?_⟩⟩
  refine leaves_marks L _ hn.2 (fun q hq => ?_) (hS.putObj f1 f2 f3) (fun q hq => hf q (List.mem_cons_of_mem _ hq)) fun w2 hS2 hw2 => ?_
  ·rw [World.putObj_heap_other fun e => hn.1 (List.mem_map.2 ⟨q, hq, e⟩)]
   exact ho q (List.mem_cons_of_mem _ hq)
  ·refine h w2 hS2 fun b hb => ?_
   simp only [List.map_cons, List.mem_cons, not_or] at hb
   rw [hw2 b hb.2, World.putObj_heap_other hb.1]
theorem ACall.of_body {P : Program} {f : FuncId} {fn : Func} {body : Code} {args : List AV} {k : Nat} {pre post : Foot} {r : AV} (hmix : P.follows .mixedOrders = true) (hf : P.funcs[f]? = some fn) (hb : fn.body = some body)
  (hname : (fn.name == "runtime.NumGoroutine") = false) {N : Nat} (hN : fn.ntmps = N) (hok : codeOK N body = true) {rs : List ResultVar} (hrs : fn.results.toList = rs) (hargs : args.length ≤ N) (hpre : ∀ p ∈ pre, p.2 ≠ .none) (hpost : ∀ q ∈ post, q.1 = k ∨ ∃ p ∈ pre, p.1 = q.1)
  (h : ∀ (σ : Nat → Ent) (n : Nat), (∀ p ∈ pre, σ p.1 = p.2) → (∀ p ∈ pre, p.1 < n) → σ k = .none → k < n → (∀ id, n ≤ id → σ id = .none) → aw P N body (aRet P rs k σ n pre r post) ⟨initS args, σ, n⟩) :
  ACall P f args k pre r post := by
 refine ⟨by simp [callable, hf, hb, hname], hpre, hpost, fun W0 g σ n w vals hS hl hv hk hkn hp => ?_⟩
 have hpn : ∀ p ∈ pre, p.1 < n := fun p hpm => by
  rcases Nat.lt_or_ge p.1 n with h' | h'
  ·exact h'
  ·exact absurd ((hp p hpm).symm.trans (hS.bound p.1 h')) (hpre p hpm)
 have haw := h σ n hp hpn hk hkn hS.bound
 subst hN
 let a : Act := { tmps := vals.toArray ++ Array.replicate (fn.ntmps - vals.toArray.size) undef, defers := [] }
 have hSA : SimA W0 g fn.ntmps ⟨initS args, σ, n⟩ a w := by
  refine ⟨hS, by simp [a]; omega, fun t => ?_⟩
  show Rep g (args.getD t (.tup [])) (a.tmps.getD t undef)
  by_cases ht : t < args.length
  ·have ht' : t < vals.length := by omega
   have := hv t args[t] vals[t] (List.getElem?_eq_getElem ht) (List.getElem?_eq_getElem ht')
   have e1 : args.getD t (.tup []) = args[t] := by simp [List.getD, List.getElem?_eq_getElem ht]
   have e2 : a.tmps.getD t undef = vals[t] := by simp [a, Array.getElem?_append, ht']
   rw [e1, e2]; exact this
  ·have e1 : args.getD t (.tup []) = .tup [] := by simp [List.getD, List.getElem?_eq_none (Nat.not_lt.1 ht)]
   have e2 : a.tmps.getD t undef = undef := by
    simp only [a]
    rw [Array.getD_eq_getD_getElem?, Array.getElem?_append]
    rw [if_neg (by simp; omega), Array.getElem?_replicate]
    split <;> rfl
   rw [e1, e2]
   exact .tup [] [] rfl fun i x v h _ => by simp at h
 refine callsIn_wide.1 (callsIn_of_wp_marks (n := 0) hf hb trivial (wpIn_mono (haw hok hmix none (.inl rfl) W0 g a w hSA) fun e a' w' hq => ?_))
 obtain ⟨c', g', hle, hS', hM, hq⟩ := hq
 have fin : ARet P rs k σ n pre r post c' → LeavesInM Fence.wide 0 P fn a'.tmps (fun e w' => ∃ u, e = .returned u ∧ ∃ g', g.le g' ∧ Sim W0 g' (wr σ post) n w' ∧ Rep g' r u) a'.defers .returning w' := by
  rintro ⟨r0', r', ws, fresh, h1, hrle, h2, h3, h4, h5⟩
  obtain ⟨M, hM1, hMn, hM2⟩ := hM
  have hD : a'.defers = M.map mkMark := by rw [hM1]; simp [a]
  have hws : ∀ q ∈ ws, σ q.1 ≠ .none := fun q hq => by obtain ⟨p, hp1, hp2⟩ := h4 q hq; rw [← hp2, hp p hp1]; exact hpre p hp1
  obtain ⟨g2, hle2, hS2, hrep, hG2, hblk, _⟩ := hS.leave hS'.sim hle hk hkn h3 hws (post := post) (fresh := fresh) (by
   cases fresh with
   | none => exact h5
   | some r0 => exact ⟨h5.1, h5.2.1⟩)
  have hmk : ∀ p ∈ M, n ≤ p.1 ∧ fresh ≠ some p.1 := by
   intro p hpM
   obtain ⟨hj3, hj1, hj2⟩ := hM2 p hpM
   have hsj := hS'.sim.is_mark hj1 hj2
   refine ⟨?_, fun hf => ?_⟩
   ·rcases Nat.lt_or_ge p.1 n with hjn | hjn
    ·exfalso
     have := h3 p.1 hjn
     rw [hsj] at this
     rcases wr_at p.1 ws with ⟨k1, _⟩ | ⟨q, hq, k1, _⟩
     ·rw [k1] at this
      exact hj3 (hS.has (by rw [← this]; simp))
     ·exact hj3 (hS.has (by rw [← k1]; exact hws q hq))
    ·exact hjn
   ·subst hf
    have := h5.2.2
    rw [hsj] at this
    cases this
  have hM3 : ∀ p ∈ M, w'.heap[p.2]? = some (.deferred (some [])) ∧ ∀ o, g'.G p.2 o = none := fun p hpM => by
   obtain ⟨_, hj1, hj2⟩ := hM2 p hpM
   exact hS'.sim.mark_at hj1 (hS'.sim.is_mark hj1 hj2)
  have hMr : (M.map (·.2)).Nodup := by
   have : ∀ L : List (Nat × Nat), (∀ p ∈ L, g'.loc p.1 = some p.2) → (L.map (·.1)).Nodup → (L.map (·.2)).Nodup := by
    intro L
    induction L with
    | nil => intro _ _; exact List.nodup_nil
    | cons p L ih =>
     intro hl hn
     simp only [List.map_cons, List.nodup_cons] at hn ⊢
     refine ⟨fun hm => hn.1 ?_, ih (fun q hq => hl q (List.mem_cons_of_mem _ hq)) hn.2⟩
     obtain ⟨q, hq, he⟩ := List.mem_map.1 hm
     have h1 := hl p (List.mem_cons_self ..)
     have h2 := hl q (List.mem_cons_of_mem _ hq)
     rw [he] at h2
     have := hS'.sim.sep p.1 q.1 p.2 (Ghost.blk_loc h1) (Ghost.blk_loc h2)
     rw [this]; exact List.mem_map_of_mem hq
   exact this M (fun p hpM => (hM2 p hpM).2.1) hMn
  rw [hD]
  refine leaves_marks M w' hMr (fun p hpM => (hM3 p hpM).1) hS2 (fun p hpM => ?_) fun w2 hSw hw2 => ?_
  ·obtain ⟨_, hj1, hj2⟩ := hM2 p hpM
   refine ⟨(hS'.sim.fresh p.1 p.2 (Ghost.blk_loc hj1)).1, fun i hi => ?_, fun o => by rw [hG2]; exact (hM3 p hpM).2 o⟩
   obtain ⟨i0, e1, e2⟩ := hblk i p.2 hi
   have := hS'.sim.sep i0 p.1 p.2 e2 (Ghost.blk_loc hj1)
   subst this
   obtain ⟨m1, m2⟩ := hmk p hpM
   rw [rn_out m1 m2] at e1
   cases e1
  ·obtain ⟨u, hu, hrun⟩ := aresults_sound (fn := fn) hS' (w2 := w2) (fun i b hb hpl => hw2 b fun hm => by
    obtain ⟨p, hpM, rfl⟩ := List.mem_map.1 hm
    obtain ⟨_, hj1, hj2⟩ := hM2 p hpM
    have := hS'.sim.sep i p.1 p.2 (Ghost.blk_loc hb) (Ghost.blk_loc hj1)
    subst this
    rw [hS'.sim.is_mark hj1 hj2] at hpl
    cases hpl) (by rw [hrs]; exact h1)
   exact ⟨u, hrun, u, rfl, g2, hle2, hSw, by rw [h2]; exact hrep _ _ (hrle _ _ hu)⟩
 cases e with
 | normal => exact fin hq
 | ret => exact fin hq
 | exit id => exact hq.elim
 | goto => exact hq.elim
 | panic => exact hq.elim
 | outgrown => exact hq.elim
theorem AV.le_nils : AV.le .nils (.slice none []) := fun g v h => by
 cases h
 exact .slice none [] [] none 0 0 rfl (Nat.le_refl _) (by unfold maxLen; omega) (fun i x v h _ => by simp at h) (fun v hv => by simp at hv) (.inl rfl) (fun id hid => by cases hid)
theorem AV.le_own (o : Option Nat) (xs : List AV) : AV.le (.slice o xs) (.slice none xs) := fun g v h => by
 cases h with
 | slice own xs vs A c size hvl hc hm hr hs hcell hown => exact .slice none xs vs A c size hvl hc hm hr hs hcell (fun id hid => by cases hid)
inductive ALe : List AV → List AV → Prop where
 | nil : ALe [] []
 | cons {x y : AV} {xs ys : List AV} : AV.le x y → ALe xs ys → ALe (x :: xs) (y :: ys)
theorem ALe.at {xs ys : List AV} (h : ALe xs ys) : xs.length = ys.length ∧ ∀ (i : Nat) (y : AV), ys[i]? = some y → ∃ x, xs[i]? = some x ∧ AV.le x y := by
 induction h with
 | nil => exact ⟨rfl, fun i y hy => by simp at hy⟩
 | cons h _ ih =>
  refine ⟨by simp [ih.1], fun i y hy => ?_⟩
  cases i with
  | zero => simp at hy; subst hy; exact ⟨_, rfl, h⟩
  | succ i => simpa using ih.2 i y (by simpa using hy)
theorem AV.sub_tup {xs ys : List AV} (h : ALe xs ys) : AV.le (.tup xs) (.tup ys) := fun g v hr => by
 cases hr with
 | tup _ vs hvl hvr =>
  obtain ⟨h1, h2⟩ := h.at
  exact .tup ys vs (by rw [hvl, h1]) fun i y v hy hv => by obtain ⟨x, hx, hxy⟩ := h2 i y hy; exact hxy g v (hvr i x v hx hv)
section
variable {P : Program} {f : FuncId} {args args' : List AV} {k : Nat} {pre post : Foot} {r r' : AV}
theorem ACall.weaken (h : ACall P f args' k pre r post) (hle : ALe args args') : ACall P f args k pre r post := by
 obtain ⟨h1, h2, h3, h4⟩ := h
 obtain ⟨hl, hle⟩ := hle.at
 refine ⟨h1, h2, h3, fun W0 g σ n w vals hS hv hr hf hn hpre => h4 W0 g σ n w vals hS (by rw [hv, hl]) (fun i y v hy hv' => ?_) hf hn hpre⟩
 obtain ⟨x, hx, hxy⟩ := hle i y hy
 exact hxy g v (hr i x v hx hv')
theorem ACall.result (h : ACall P f args k pre r post) (hle : AV.le r r') : ACall P f args k pre r' post := by
 obtain ⟨h1, h2, h3, h4⟩ := h
 refine ⟨h1, h2, h3, fun W0 g σ n w vals hS hv hr hf hn hpre => (h4 W0 g σ n w vals hS hv hr hf hn hpre).mono ?_⟩
 rintro e w' ⟨u, rfl, g', hg, hS', hu⟩
 exact ⟨u, rfl, g', hg, hS', hle _ _ hu⟩
theorem ACall.nilrow {e : TypeId} {size : Nat} (h : ACall P f args k [] .nils []) : ACall P f args k [] (.slice (some k) []) [(k, .row e size 0)] := by
 obtain ⟨h1, h2, h3, h4⟩ := h
 refine ⟨h1, h2, fun q hq => by simp at hq; subst hq; exact .inl rfl, fun W0 g σ n w vals hS hv hr hf hn hpre => (h4 W0 g σ n w vals hS hv hr hf hn hpre).mono ?_⟩
 rintro e' w' ⟨u, rfl, g', hg, hS', hu⟩
 cases hu
 obtain ⟨g1, hle1, hS1, hrow1, _⟩ := hS'.addRow (k := k) (e := e) (size := size) (m := 0) (u := .slice none 0 0) (cells := []) hf hn (ownsR_nil w' _ e size) rfl (fun b hb => by simp [Value.ownBlock] at hb) (fun b hb => by simp [Value.ownBlock] at hb)
 refine ⟨.slice none 0 0, rfl, g1, hg.trans hle1, hS1, ?_⟩
 exact .slice (some k) [] [] none 0 0 rfl (Nat.le_refl _) (by unfold maxLen; omega) (fun i x v h _ => by simp at h) (fun v hv => by simp at hv) (.inl rfl) (fun id hid => by cases hid; exact ⟨_, hrow1, Nat.le_refl _, fun _ => rfl⟩)
theorem ACall.empty {own : Option Nat} (h : ∀ A c, ACall P f [.lit (.slice A 0 c)] k pre r post) : ACall P f [.slice own []] k pre r post := by
 obtain ⟨h1, h2, h3, _⟩ := h none 0
 refine ⟨h1, h2, h3, fun W0 g σ n w vals hS hv hr hf hn hpre => ?_⟩
 match vals, hv with
 | [v], _ =>
  have := hr 0 _ v rfl rfl
  cases this with
  | slice _ _ vs A c size hvl hc hm _ hs hcell hown =>
   exact (h A c).2.2.2 W0 g σ n w [.slice A 0 c] hS rfl (fun i x v hx hv => by
    cases i with
    | zero => simp at hx hv; subst hx; subst hv; exact .lit _ rfl
    | succ i => simp at hx) hf hn hpre
end
theorem wrap_i64 {x : Int} (h1 : -9223372036854775808 ≤ x) (h2 : x ≤ 9223372036854775807) : IntKind.i64.wrap x = x := by rw [IntKind.wrap_i64]; omega
@[go_sem low] theorem evBuild_unf : type_of% @evBuild.eq_def := @evBuild.eq_def
@[go_sem low] theorem fillA_nil (place : Nat → Option (Nat × Nat)) (zs : List AV) : fillA place zs [] = some zs := by cases zs <;> rfl
@[go_sem low] theorem fillA_cons (place : Nat → Option (Nat × Nat)) (zs : List AV) (i : Nat) (z : AV) (r : List (Nat × AV)) : fillA place zs ((i, z) :: r) = match zs[i]? with
  | some y => if y.sz == z.sz && place i == some (AV.szl (zs.take i), z.sz) then fillA place (zs.set i z) r else none
  | none => none := by cases zs <;> rfl
@[go_sem low] theorem evBin_unf : type_of% @evBin.eq_def := @evBin.eq_def
attribute [go_sem] evalOp evPick evExtract evNilCheck evMakeFunc evNilEq nilAV isNilV evUn evConvert evIndex evFieldAddr evLoad evStore evAlloc evIndexAddr evBuildSlice evSlice evMakeSlice evLen evMin evMax evAppend evBuiltin evCall evBox evMrow evSliceBox evAppendZ evCopy evClear copySrc evEqA eqA eqAs bytesOf0 bytesOf0_map assertT aeval litBin litInt litUn litStr pickAV upd_same upd_ne sput bnd initS_zero initS_succ initS_nil wrap_i64 wr_nil wr_cons addT aresults aresultL aresult1
def pureOp : Op → Bool
 | .move _ | .assign _ | .pick .. | .extract .. | .nilCheck _ | .makeFunc .. | .binOp .. | .unOp .. | .convert .. | .index .. | .fieldAddr .. | .indexAddr .. | .build .. | .slice .. | .makeInterface .. | .typeAssert .. => true
 | .call { callee := .builtin .len, .. } | .call { callee := .builtin .min, .. } | .call { callee := .builtin .max, .. } => true
 | _ => false
def newOp : Op → Bool
 | .box .. | .alloc _ | .buildSlice .. | .makeSlice .. => true
 | _ => false
section
variable {P : Program} {ops : Array Oper} {m i n : Nat} {T : Trace} {k : Cfg → Trace → Prop} {op : Op} {ty : TypeId} {pos : String} {after : Array Edge} {r : List Oper} {s : Slots} {σ : Nat → Ent} {gd : Option (Nat × Bool)} {d : Option Tmp}
theorem go_pure {t : Tmp} {v : AV} (_hp : pureOp op = true) (he : evalOp P op s σ (m + i) = some ⟨[], v, []⟩) (h : aops P ops m r (i + 1) T k ⟨upd s t v, σ, n⟩) : aops P ops m (⟨some t, op, ty, pos, after, none⟩ :: r) i T k ⟨s, σ, n⟩ := by
 rw [aops_cons, wantedG_none, aguard_true]; exact ⟨_, evalOp_sound he, h⟩
theorem go_move {t : Tmp} {v : AV} {x : Operand} (he : aeval s x = v) (h : aops P ops m r (i + 1) T k ⟨upd s t v, σ, n⟩) : aops P ops m (⟨some t, .move x, ty, pos, after, none⟩ :: r) i T k ⟨s, σ, n⟩ := by
 subst he; exact go_pure rfl rfl h
theorem go_assign {t : Tmp} {v : AV} {x : Operand} (he : aeval s x = v) (h : aops P ops m r (i + 1) T k ⟨upd s t v, σ, n⟩) : aops P ops m (⟨some t, .assign x, ty, pos, after, none⟩ :: r) i T k ⟨s, σ, n⟩ := by
 subst he; exact go_pure rfl rfl h
theorem go_load {t : Tmp} {t' : TypeId} {x : Operand} {v : AV} {p : Nat × Ent} (he : evLoad P σ t' (aeval s x) = some ⟨[p], v, []⟩) (h : aops P ops m r (i + 1) ((i, [p], []) :: T) k ⟨upd s t v, σ, n⟩) : aops P ops m (⟨some t, .load t' x, ty, pos, after, none⟩ :: r) i T k ⟨s, σ, n⟩ := by
 have he' : evalOp P (.load t' x) s σ (m + i) = some ⟨[p], v, []⟩ := he
 rw [aops_cons, wantedG_none, aguard_true]; exact ⟨_, evalOp_sound he', h⟩
theorem go_loadv {t : Tmp} {t' : TypeId} {x : Operand} {v : AV} (he : evLoad P σ t' (aeval s x) = some ⟨[], v, []⟩) (h : aops P ops m r (i + 1) T k ⟨upd s t v, σ, n⟩) : aops P ops m (⟨some t, .load t' x, ty, pos, after, none⟩ :: r) i T k ⟨s, σ, n⟩ := by
 have he' : evalOp P (.load t' x) s σ (m + i) = some ⟨[], v, []⟩ := he
 rw [aops_cons, wantedG_none, aguard_true]; exact ⟨_, evalOp_sound he', h⟩
theorem go_new {t : Tmp} {v : AV} {q : Nat × Ent} (_hp : newOp op = true) (he : evalOp P op s σ (m + i) = some ⟨[], v, [q]⟩) (h : aops P ops m r (i + 1) ((i, [], [q]) :: T) k ⟨upd s t v, upd σ q.1 q.2, n⟩) : aops P ops m (⟨some t, op, ty, pos, after, none⟩ :: r) i T k ⟨s, σ, n⟩ := by
 rw [aops_cons, wantedG_none, aguard_true]; exact ⟨_, evalOp_sound he, h⟩
theorem go_read1 {t : Tmp} {v : AV} {p : Nat × Ent} (_hp : pureOp op = true) (he : evalOp P op s σ (m + i) = some ⟨[p], v, []⟩) (h : aops P ops m r (i + 1) ((i, [p], []) :: T) k ⟨upd s t v, σ, n⟩) : aops P ops m (⟨some t, op, ty, pos, after, none⟩ :: r) i T k ⟨s, σ, n⟩ := by
 rw [aops_cons, wantedG_none, aguard_true]; exact ⟨_, evalOp_sound he, h⟩
theorem go_rw1 {t : Tmp} {v : AV} {p q : Nat × Ent} (_hp : pureOp op = true) (he : evalOp P op s σ (m + i) = some ⟨[p], v, [q]⟩) (h : aops P ops m r (i + 1) ((i, [p], [q]) :: T) k ⟨upd s t v, upd σ q.1 q.2, n⟩) : aops P ops m (⟨some t, op, ty, pos, after, none⟩ :: r) i T k ⟨s, σ, n⟩ := by
 rw [aops_cons, wantedG_none, aguard_true]; exact ⟨_, evalOp_sound he, h⟩
theorem go_new1 {t : Tmp} {v : AV} {q : Nat × Ent} (_hp : pureOp op = true) (he : evalOp P op s σ (m + i) = some ⟨[], v, [q]⟩) (h : aops P ops m r (i + 1) ((i, [], [q]) :: T) k ⟨upd s t v, upd σ q.1 q.2, n⟩) : aops P ops m (⟨some t, op, ty, pos, after, none⟩ :: r) i T k ⟨s, σ, n⟩ := by
 rw [aops_cons, wantedG_none, aguard_true]; exact ⟨_, evalOp_sound he, h⟩
theorem go_appendz {t : Tmp} {x y : Operand} {t' tn : TypeId} {v : AV} {p q : Nat × Ent} (hne : (t' == tn) = false) (he : evAppendZ P σ t' tn (aeval s x) (aeval s y) = some ⟨[p], v, [q]⟩) (h : aops P ops m r (i + 1) ((i, [p], [q]) :: T) k ⟨upd s t v, upd σ q.1 q.2, n⟩) :
  aops P ops m (⟨some t, .call { callee := .builtin .append, args := #[x, y], argTypes := #[t', tn] }, ty, pos, after, none⟩ :: r) i T k ⟨s, σ, n⟩ := by
 have he' : evalOp P (.call { callee := .builtin .append, args := #[x, y], argTypes := #[t', tn] }) s σ (m + i) = some ⟨[p], v, [q]⟩ := by
  have : t' ≠ tn := by simpa using hne
  simp only [evalOp, evCall, evBuiltin, if_neg this]; exact he
 rw [aops_cons, wantedG_none, aguard_true]; exact ⟨_, evalOp_sound he', h⟩
theorem go_copy {t : Tmp} {x y : Operand} {t1 t2 : TypeId} {v : AV} {p q : Nat × Ent} (he : evCopy P σ t1 (aeval s x) (aeval s y) = some ⟨[p], v, [q]⟩) (h : aops P ops m r (i + 1) ((i, [p], [q]) :: T) k ⟨upd s t v, upd σ q.1 q.2, n⟩) :
  aops P ops m (⟨some t, .call { callee := .builtin .copy, args := #[x, y], argTypes := #[t1, t2] }, ty, pos, after, none⟩ :: r) i T k ⟨s, σ, n⟩ := by
 have he' : evalOp P (.call { callee := .builtin .copy, args := #[x, y], argTypes := #[t1, t2] }) s σ (m + i) = some ⟨[p], v, [q]⟩ := he
 rw [aops_cons, wantedG_none, aguard_true]; exact ⟨_, evalOp_sound he', h⟩
theorem go_copy0 {x y : Operand} {t1 t2 : TypeId} {v : AV} {p q : Nat × Ent} (he : evCopy P σ t1 (aeval s x) (aeval s y) = some ⟨[p], v, [q]⟩) (h : aops P ops m r (i + 1) ((i, [p], [q]) :: T) k ⟨s, upd σ q.1 q.2, n⟩) :
  aops P ops m (⟨none, .call { callee := .builtin .copy, args := #[x, y], argTypes := #[t1, t2] }, ty, pos, after, none⟩ :: r) i T k ⟨s, σ, n⟩ := by
 have he' : evalOp P (.call { callee := .builtin .copy, args := #[x, y], argTypes := #[t1, t2] }) s σ (m + i) = some ⟨[p], v, [q]⟩ := he
 rw [aops_cons, wantedG_none, aguard_true]; exact ⟨_, evalOp_sound he', h⟩
theorem go_clear0 {x : Operand} {t1 : TypeId} {v : AV} {p q : Nat × Ent} (he : evClear P σ t1 (aeval s x) = some ⟨[p], v, [q]⟩) (h : aops P ops m r (i + 1) ((i, [p], [q]) :: T) k ⟨s, upd σ q.1 q.2, n⟩) :
  aops P ops m (⟨none, .call { callee := .builtin .clear, args := #[x], argTypes := #[t1] }, ty, pos, after, none⟩ :: r) i T k ⟨s, σ, n⟩ := by
 have he' : evalOp P (.call { callee := .builtin .clear, args := #[x], argTypes := #[t1] }) s σ (m + i) = some ⟨[p], v, [q]⟩ := he
 rw [aops_cons, wantedG_none, aguard_true]; exact ⟨_, evalOp_sound he', h⟩
theorem go_own {t : Tmp} {st : Step} (hg : ∀ o : Oper, o.op = op → Gives P o s σ (m + i) st) (h : aops P ops m r (i + 1) (addT i st T) k ⟨upd s t st.v, wr σ st.post, n⟩) : aops P ops m (⟨some t, op, ty, pos, after, none⟩ :: r) i T k ⟨s, σ, n⟩ := by
 rw [aops_cons, wantedG_none, aguard_true]; exact ⟨_, hg _ rfl, h⟩
theorem go_store {t' : TypeId} {x y : Operand} {p q : Nat × Ent} (he : evStore P σ t' (aeval s x) (aeval s y) = some ⟨[p], .tup [], [q]⟩) (h : aops P ops m r (i + 1) ((i, [p], [q]) :: T) k ⟨s, upd σ q.1 q.2, n⟩) : aops P ops m (⟨none, .store t' x y, ty, pos, after, none⟩ :: r) i T k ⟨s, σ, n⟩ := by
 have he' : evalOp P (.store t' x y) s σ (m + i) = some ⟨[p], .tup [], [q]⟩ := he
 rw [aops_cons, wantedG_none, aguard_true]; exact ⟨_, evalOp_sound he', h⟩
theorem go_append {t : Tmp} {x y : Operand} {t' : TypeId} {v : AV} {p q : Nat × Ent} (he : evAppend P σ (m + i) t' (aeval s x) (aeval s y) = some ⟨[p], v, [q]⟩) (h : aops P ops m r (i + 1) ((i, [p], [q]) :: T) k ⟨upd s t v, upd σ q.1 q.2, n⟩) :
  aops P ops m (⟨some t, .call { callee := .builtin .append, args := #[x, y], argTypes := #[t', t'] }, ty, pos, after, none⟩ :: r) i T k ⟨s, σ, n⟩ := by
 have he' : evalOp P (.call { callee := .builtin .append, args := #[x, y], argTypes := #[t', t'] }) s σ (m + i) = some ⟨[p], v, [q]⟩ := by
  simp only [evalOp, evCall, evBuiltin, if_true]; exact he
 rw [aops_cons, wantedG_none, aguard_true]; exact ⟨_, evalOp_sound he', h⟩
theorem go_append0 {t : Tmp} {x y : Operand} {t' : TypeId} {v : AV} {q : Nat × Ent} (he : evAppend P σ (m + i) t' (aeval s x) (aeval s y) = some ⟨[], v, [q]⟩) (h : aops P ops m r (i + 1) ((i, [], [q]) :: T) k ⟨upd s t v, upd σ q.1 q.2, n⟩) :
  aops P ops m (⟨some t, .call { callee := .builtin .append, args := #[x, y], argTypes := #[t', t'] }, ty, pos, after, none⟩ :: r) i T k ⟨s, σ, n⟩ := by
 have he' : evalOp P (.call { callee := .builtin .append, args := #[x, y], argTypes := #[t', t'] }) s σ (m + i) = some ⟨[], v, [q]⟩ := by
  simp only [evalOp, evCall, evBuiltin, if_true]; exact he
 rw [aops_cons, wantedG_none, aguard_true]; exact ⟨_, evalOp_sound he', h⟩
theorem go_guardT {g : Nat × Bool} (hw : wantedG ops (some g) s = some true) (h : aops P ops m (⟨d, op, ty, pos, after, none⟩ :: r) i T k ⟨s, σ, n⟩) : aops P ops m (⟨d, op, ty, pos, after, some g⟩ :: r) i T k ⟨s, σ, n⟩ := by
 rw [aops_cons] at h ⊢
 rw [wantedG_none, aguard_true] at h
 rw [hw, aguard_true]
 exact h
theorem go_guardF {g : Nat × Bool} {t : Tmp} (hw : wantedG ops (some g) s = some false) (h : aops P ops m r (i + 1) T k ⟨upd s t (.tup []), σ, n⟩) : aops P ops m (⟨some t, op, ty, pos, after, some g⟩ :: r) i T k ⟨s, σ, n⟩ := by
 rw [aops_cons, hw, aguard_false]; exact h
theorem wantedG_bool {j t : Nat} {want b : Bool} (hd : (ops[j]?).bind (·.dst) = some t) (hs : s t = .lit (.bool b)) : wantedG ops (some (j, want)) s = some (b == want) := by
 simp [wantedG, hd, hs]
theorem wantedG_tup {j t : Nat} {want : Bool} (hd : (ops[j]?).bind (·.dst) = some t) (hs : s t = .tup []) : wantedG ops (some (j, want)) s = some false := by
 simp [wantedG, hd, hs]
theorem go_guard_in {j g : Nat} {want : Bool} {t : Tmp} (hd : (ops[j]?).bind (·.dst) = some g) (hs : s g = .lit (.bool want)) (h1 : aops P ops m (⟨some t, op, ty, pos, after, none⟩ :: r) i T k ⟨s, σ, n⟩) :
  aops P ops m (⟨some t, op, ty, pos, after, some (j, want)⟩ :: r) i T k ⟨s, σ, n⟩ := go_guardT (by rw [wantedG_bool hd hs]; simp) h1
theorem go_guard_out {j g : Nat} {want b : Bool} {t : Tmp} (hd : (ops[j]?).bind (·.dst) = some g) (hs : s g = .lit (.bool b)) (hb : b = !want) (h2 : aops P ops m r (i + 1) T k ⟨upd s t (.tup []), σ, n⟩) :
  aops P ops m (⟨some t, op, ty, pos, after, some (j, want)⟩ :: r) i T k ⟨s, σ, n⟩ := go_guardF (by rw [wantedG_bool hd hs, hb]; simp) h2
theorem go_guard_no {j g : Nat} {want : Bool} {t : Tmp} (hd : (ops[j]?).bind (·.dst) = some g) (hs : s g = .tup []) (h2 : aops P ops m r (i + 1) T k ⟨upd s t (.tup []), σ, n⟩) :
  aops P ops m (⟨some t, op, ty, pos, after, some (j, want)⟩ :: r) i T k ⟨s, σ, n⟩ := go_guardF (wantedG_tup hd hs) h2
theorem go_call {t : Tmp} {x : Operand} {args : Array Operand} {ts : Array TypeId} {f : FuncId} {caps : List AV} {pre post : Foot} {v : AV} (hx : aeval s x = .fn f caps) (hc : ACall P f (args.toList.map (aeval s) ++ caps) (m + i) pre v post) (hp : ∀ p ∈ pre, σ p.1 = p.2)
  (h : aops P ops m r (i + 1) (addT i ⟨pre, v, post⟩ T) k ⟨upd s t v, wr σ post, n⟩) : aops P ops m (⟨some t, .call { callee := .value x, args := args, argTypes := ts }, ty, pos, after, none⟩ :: r) i T k ⟨s, σ, n⟩ := by
 rw [aops_cons, wantedG_none, aguard_true]
 exact astepX_call (c := ⟨s, σ, n⟩) rfl hx hc hp h
theorem go_nil {c : Cfg} (h : k c T) : aops P ops m [] i T k c := h
end
section
variable {P : Program} {N : Nat} {Q : AExit → Cfg → Prop} {c : Cfg}
theorem go_then {next : Cfg → Prop} (h : next c) : aThen next Q .normal c := h
theorem go_then_exit {next : Cfg → Prop} {id : Nat} (h : Q (.exit id) c) : aThen next Q (.exit id) c := h
theorem go_then_ret {next : Cfg → Prop} (h : Q .ret c) : aThen next Q .ret c := h
theorem go_blk {id : Nat} (h : Q .normal c) : aBlk id Q .normal c := h
theorem go_blk_ret {id : Nat} (h : Q .ret c) : aBlk id Q .ret c := h
theorem go_blk_here {id : Nat} (h : Q .normal c) : aBlk id Q (.exit id) c := by simp [aBlk]; exact h
theorem go_blk_there {id id' : Nat} (hne : (id' == id) = false) (h : Q (.exit id') c) : aBlk id Q (.exit id') c := by
 simp at hne
 simp [aBlk, hne]; exact h
theorem go_kreg {ops : Array Oper} {T : Trace} (h : Q .normal c) : kReg ops false Q c T := by rw [kReg_false]; exact h
theorem go_kreg0 {ops : Array Oper} (h : Q .normal c) : kReg ops true Q c [] := by rw [kReg_true]; exact ⟨trivial, h⟩
theorem go_kreg1 {ops : Array Oper} {x : Nat × Foot × Foot} (h : Q .normal c) : kReg ops true Q c [x] := by rw [kReg_true, CF_one]; exact ⟨trivial, h⟩
theorem go_kregT {ops : Array Oper} {T : Trace} (hT : CF ops T) (h : Q .normal c) : kReg ops true Q c T := by rw [kReg_true]; exact ⟨hT, h⟩
end
theorem go_result {P : Program} {rs : List ResultVar} {k : Nat} {σ0 : Nat → Ent} {n0 : Nat} {pre : Foot} {r r' : AV} {c : Cfg} (h1 : aresults P c rs = some r') (h2 : r'.ren (rn n0 k none) = r) (h3 : ∀ id, id < n0 → c.σ id = σ0 id) : aRet P rs k σ0 n0 pre r [] .ret c :=
 ⟨r', r', [], none, h1, AV.le_refl _, h2.symm, h3, (fun q hq => (by cases hq)), rfl⟩
theorem go_resultL {P : Program} {rs : List ResultVar} {k : Nat} {σ0 : Nat → Ent} {n0 : Nat} {pre : Foot} {r r0 r' : AV} {c : Cfg} (h1 : aresults P c rs = some r0) (hle : AV.le r0 r') (h2 : r'.ren (rn n0 k none) = r) (h3 : ∀ id, id < n0 → c.σ id = σ0 id) : aRet P rs k σ0 n0 pre r [] .ret c :=
 ⟨r0, r', [], none, h1, hle, h2.symm, h3, (fun q hq => (by cases hq)), rfl⟩
theorem go_result1 {P : Program} {rs : List ResultVar} {k r0 : Nat} {σ0 : Nat → Ent} {n0 : Nat} {pre : Foot} {r r' : AV} {E E' : Ent} {c : Cfg} (h1 : aresults P c rs = some r') (h0 : n0 ≤ r0) (h2 : r'.ren (rn n0 k (some r0)) = r) (h3 : ∀ id, id < n0 → c.σ id = σ0 id)
  (h4 : c.σ r0 = E') (h5 : E'.ren (rn n0 k (some r0)) = E) (h6 : E'.plain = true := by rfl) : aRet P rs k σ0 n0 pre r [(k, E)] .ret c :=
 ⟨r', r', [], some r0, h1, AV.le_refl _, h2.symm, h3, (fun q hq => (by cases hq)), h0, by rw [h4, h5]; rfl, by rw [h4]; exact h6⟩
theorem go_resultW {P : Program} {rs : List ResultVar} {k : Nat} {σ0 : Nat → Ent} {n0 : Nat} {pre post : Foot} {r r' : AV} {c : Cfg} (ws : Foot) (h1 : aresults P c rs = some r') (h2 : r'.ren (rn n0 k none) = r) (h3 : ∀ id, id < n0 → c.σ id = wr σ0 ws id)
  (h4 : ∀ q ∈ ws, ∃ p ∈ pre, p.1 = q.1) (h5 : renF (rn n0 k none) ws = post) : aRet P rs k σ0 n0 pre r post .ret c :=
 ⟨r', r', ws, none, h1, AV.le_refl _, h2.symm, h3, h4, h5.symm⟩
theorem ren_byteAV (f : Nat → Option Nat) (b : UInt8) : (byteAV b).ren f = byteAV b := rfl
theorem renl_bytes (f : Nat → Option Nat) (bs : List UInt8) : AV.renl f (bs.map byteAV) = bs.map byteAV := by
 rw [AV.renl_map, List.map_map]; rfl
theorem renl_append (f : Nat → Option Nat) (xs ys : List AV) : AV.renl f (xs ++ ys) = AV.renl f xs ++ AV.renl f ys := by simp only [AV.renl_map, List.map_append]
@[go_sem] theorem ent_ren_box (f : Nat → Option Nat) (t : TypeId) (x : AV) : (Ent.box t x).ren f = .box t (x.ren f) := rfl
@[go_sem] theorem ent_ren_fbox (f : Nat → Option Nat) (t : TypeId) (x : AV) : (Ent.fbox t x).ren f = .fbox t (x.ren f) := rfl
@[go_sem] theorem ent_ren_row (f : Nat → Option Nat) (e : TypeId) (size n : Nat) : (Ent.row e size n).ren f = .row e size n := rfl
@[go_sem] theorem ent_ren_glob (f : Nat → Option Nat) (h : Nat) (x : AV) : (Ent.glob h x).ren f = .glob h (x.ren f) := rfl
@[go_sem] theorem ent_ren_mrow (f : Nat → Option Nat) (ver : Nat) (e : TypeId) (size : Nat) (xs : List AV) : (Ent.mrow ver e size xs).ren f = .mrow ver e size (AV.renl f xs) := rfl
theorem rn_lt {n0 k id : Nat} {fresh : Option Nat} (h : id < n0) : rn n0 k fresh id = some id := by simp [rn, h]
theorem rn_fresh {n0 k id : Nat} (h : n0 ≤ id) : rn n0 k (some id) id = some k := by simp [rn, Nat.not_lt.2 h]
@[go_sem] theorem isAgg_agg (xs : List AV) : (AV.agg xs).isAgg = true := rfl
@[go_sem] theorem isAgg_any : AV.any.isAgg = false := rfl
@[go_sem] theorem isAgg_lit (v : Value) : (AV.lit v).isAgg = false := rfl
@[go_sem] theorem isAgg_nils : AV.nils.isAgg = false := rfl
@[go_sem] theorem isAgg_slice (o : Option Nat) (xs : List AV) : (AV.slice o xs).isAgg = false := rfl
@[go_sem] theorem isAgg_ptr (i : Nat) (p : List Nat) (q : Nat) : (AV.ptr i p q).isAgg = false := rfl
@[go_sem] theorem isAgg_view (x : AV) : (AV.view x).isAgg = false := rfl
@[go_sem] theorem isAgg_fn (f : FuncId) (xs : List AV) : (AV.fn f xs).isAgg = false := rfl
@[go_sem] theorem isAgg_tup (xs : List AV) : (AV.tup xs).isAgg = false := rfl
@[go_sem] theorem isAgg_clip (xs : List AV) : (AV.clip xs).isAgg = false := rfl
@[go_sem] theorem isAgg_ms (a b c d e : Nat) : (AV.ms a b c d e).isAgg = false := rfl
@[go_sem] theorem isAgg_mp (a b : Nat) (p : List Nat) (q : Nat) : (AV.mp a b p q).isAgg = false := rfl
@[go_sem] theorem isAgg_bs (a : Nat) (p : List Nat) (b c d : Nat) : (AV.bs a p b c d).isAgg = false := rfl
@[go_sem] theorem isAgg_iface (t : TypeId) (x : AV) : (AV.iface t x).isAgg = false := rfl
attribute [go_sem] AV.get AV.offs AV.put evBox AV.sz AV.szl AV.cell AV.celll byteAV_sz byteAV_cell if_pos AV.elems AV.ren renl_bytes renl_append AV.renl rn_lt rn_fresh renF
theorem bytes_all1 (bs : List UInt8) : (bs.map byteAV).all (fun x => x.sz == 1) = true := by
 rw [List.all_eq_true]; intro x hx; obtain ⟨b, _, rfl⟩ := List.mem_map.1 hx; rfl
theorem bytes_all2 (bs : List UInt8) : (bs.map byteAV).all (fun x => x.sz == 1 && x.cell) = true := by
 rw [List.all_eq_true]; intro x hx; obtain ⟨b, _, rfl⟩ := List.mem_map.1 hx; rfl
end Go.Ab
