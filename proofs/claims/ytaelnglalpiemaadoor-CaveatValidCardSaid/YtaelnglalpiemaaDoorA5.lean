/- Operations on values: what each comes to, by a function (evalOp's parts), and that it is so. -/
import Derived.Test.YtaelnglalpiemaaDoorA4
import Derived.Laws.Strings
import Derived.Laws.Slices
namespace Go.Ab
open Go.RowKit

section
variable {P : Program} {o : Oper} {s : Slots} {id : Nat} {v : AV}

theorem holds_read {pre : Foot} (hpre : ∀ p ∈ pre, p.2 ≠ .none)
    (h : ∀ (W0 : World) (g : Ghost) (σ : Nat → Ent) (n : Nat) (w : World) (a : Act), Sim W0 g σ n w → (∀ x ∈ o.op.operands, Rep g (aeval s x) (a.eval x)) → (∀ p ∈ pre, σ p.1 = p.2) →
      ∃ u, (execOp a.eval o).run P w = .ok (.value u) w ∧ Rep g v u) : OpHolds P o s id pre v [] := by
  refine ⟨hpre, fun q hq => (by cases hq), fun W0 g σ n w a hS hx _ _ hp => ?_⟩
  obtain ⟨u, hu, hr⟩ := h W0 g σ n w a hS hx hp
  unfold runsTo
  rw [hu]
  exact ⟨g, g.le_refl, hS, hr⟩

theorem holds_pure (h : ∀ (g : Ghost) (w : World) (a : Act), (∀ x ∈ o.op.operands, Rep g (aeval s x) (a.eval x)) → ∃ u, (execOp a.eval o).run P w = .ok (.value u) w ∧ Rep g v u) : OpHolds P o s id [] v [] :=
  holds_read (fun p hp => (by cases hp)) fun _ g _ _ w a _ hx _ => h g w a hx

/-! ### Moves -/
theorem holds_move {x : Operand} (ho : o.op = .move x) : OpHolds P o s id [] (aeval s x) [] :=
  holds_pure fun g w a hx => ⟨a.eval x, by simp [execOp, ho], hx x (by simp [ho, Op.operands])⟩
theorem holds_assign {x : Operand} (ho : o.op = .assign x) : OpHolds P o s id [] (aeval s x) [] :=
  holds_pure fun g w a hx => ⟨a.eval x, by simp [execOp, ho], hx x (by simp [ho, Op.operands])⟩

def pickAV (t : Bool) : AV → AV → AV
  | .lit (.bool p), .lit (.bool q) => .lit (.bool (bif t then p else q))
  | x, y => bif t then x else y

theorem pickAV_eq (t : Bool) (x y : AV) : pickAV t x y = bif t then x else y := by
  unfold pickAV
  split
  · cases t <;> rfl
  · rfl

theorem holds_pick {c x y : Operand} {t : Bool} (ho : o.op = .pick c x y) (hc : aeval s c = .lit (.bool t)) : OpHolds P o s id [] (pickAV t (aeval s x) (aeval s y)) [] :=
  holds_pure fun g w a hx => by
    have h1 := hx c (by simp [ho, Op.operands])
    rw [hc] at h1
    have h2 := hx x (by simp [ho, Op.operands])
    have h3 := hx y (by simp [ho, Op.operands])
    cases hv : a.eval c <;> rw [hv] at h1 <;> cases h1
    refine ⟨if t then a.eval x else a.eval y, by simp [execOp, ho, hv, asBool], ?_⟩
    rw [pickAV_eq]
    cases t <;> simp [h2, h3]

theorem holds_extract {x : Operand} {i : Nat} {xs : List AV} {y : AV} (ho : o.op = .extract x i) (hx : aeval s x = .tup xs) (hy : xs[i]? = some y) : OpHolds P o s id [] y [] :=
  holds_pure fun g w a hr => by
    have h1 := hr x (by simp [ho, Op.operands])
    rw [hx] at h1
    generalize hv : a.eval x = v at h1
    cases h1 with
    | tup _ vs hl h =>
      have hlt : i < vs.length := by rw [hl]; exact (List.getElem?_eq_some_iff.1 hy).1
      refine ⟨vs[i], by simp [execOp, ho, hv, Instr.extract, hlt], h i y _ hy (List.getElem?_eq_getElem hlt)⟩

theorem holds_nilCheck {x : Operand} (ho : o.op = .nilCheck x) (hx : match aeval s x with | .ptr .. | .view _ | .fn .. => True | _ => False) : OpHolds P o s id [] (aeval s x) [] :=
  holds_pure fun g w a hr => by
    have h1 := hr x (by simp [ho, Op.operands])
    refine ⟨a.eval x, ?_, h1⟩
    generalize hv : a.eval x = u at h1
    generalize aeval s x = e at h1 hx
    cases h1 <;> first | (simp at hx; done) | simp [execOp, ho, hv]

theorem holds_makeFunc {f : FuncId} {cap : Array Operand} (ho : o.op = .makeFunc (.func f) #[] cap) : OpHolds P o s id [] (.fn f (cap.toList.map (aeval s))) [] :=
  holds_pure fun g w a hr => by
    refine ⟨.func (.func f) #[] (cap.toList.map a.eval).toArray, by simp [execOp, ho, Instr.makeFunc, ← Array.toList_map], .fn f _ _ (by simp) fun i x v h1 h2 => ?_⟩
    rw [List.getElem?_map] at h1 h2
    cases hc : cap.toList[i]? with
    | none => rw [hc] at h1; cases h1
    | some c =>
      rw [hc] at h1 h2
      cases h1; cases h2
      refine hr c ?_
      simp only [ho, Op.operands]
      have : c ∈ cap.toList := List.mem_of_getElem? hc
      simpa using this

/-! ### Integers, strings, bools -/
def litInt (op : BinOp) (k : IntKind) (a b : Int) : Option Value :=
  match op with
  | .add => some (.int k (k.wrap (a + b)))
  | .sub => some (.int k (k.wrap (a - b)))
  | .mul => some (.int k (k.wrap (a * b)))
  | .quo => if b = 0 then none else some (.int k (k.wrap (a.tdiv b)))
  | .rem => if b = 0 then none else some (.int k (a.tmod b))
  | .and => some (.int k (bits .and k a b))
  | .or => some (.int k (bits .or k a b))
  | .xor => some (.int k (bits .xor k a b))
  | .andNot => some (.int k (bits .andNot k a b))
  | .eql => some (.bool (a == b))
  | .neq => some (.bool (a != b))
  | .lss => some (.bool (a < b))
  | .leq => some (.bool (a ≤ b))
  | .gtr => some (.bool (a > b))
  | .geq => some (.bool (a ≥ b))
  | _ => none

def litStr (op : BinOp) (a b : ByteArray) : Option Value :=
  match op with
  | .add => if a.size + b.size ≤ 9223372036854775807 then some (.string (a ++ b)) else none
  | .eql => some (.bool (a.toList == b.toList))
  | .neq => some (.bool (!(a.toList == b.toList)))
  | .lss => some (.bool (Op.bytesLess a.toList b.toList))
  | _ => none

def boolTy (P : Program) (t : TypeId) : Bool :=
  match P.underlying t with
  | some .bool => true
  | _ => false

def litBin (P : Program) (op : BinOp) (t : TypeId) : Value → Value → Option Value
  | .int k a, .int k' b =>
    match op with
    | .shl => if 0 ≤ b then some (.int k (k.wrap (a * 2 ^ min b.toNat k.bits))) else none
    | .shr => if 0 ≤ b then some (.int k (a.fdiv (2 ^ min b.toNat k.bits))) else none
    | _ => if k = k' then litInt op k a b else none
  | .string a, .string b => litStr op a b
  | .bool a, .bool b =>
    match op with
    | .eql => if boolTy P t then some (.bool (a == b)) else none
    | .neq => if boolTy P t then some (.bool (!(a == b))) else none
    | _ => none
  | _, _ => none

theorem run_equalIn_bool {t : TypeId} (h : P.underlying t = some .bool) (d : Nat) (a b : Bool) (w : World) : (Op.equalIn (d + 1) t (.bool a) (.bool b)).run P w = .ok (a == b) w := by
  simp [Op.equalIn, run_underlying h]

theorem run_eql_bool {t : TypeId} (h : P.underlying t = some .bool) (a b : Bool) (w : World) : (binOp .eql t (.bool a) (.bool b)).run P w = .ok (.bool (a == b)) w := by
  simp only [binOp]
  simp only [Op.equal, Op.maxDepth, Sem.run_bind, run_equalIn_bool h 9999]
  rfl
theorem run_neq_bool {t : TypeId} (h : P.underlying t = some .bool) (a b : Bool) (w : World) : (binOp .neq t (.bool a) (.bool b)).run P w = .ok (.bool (!(a == b))) w := by
  simp only [binOp]
  simp only [Op.equal, Op.maxDepth, Sem.run_bind, run_equalIn_bool h 9999]
  rfl

theorem litBin_sound {op : BinOp} {t : TypeId} {x y : Operand} {u v r : Value} (h : litBin P op t u v = some r) (w : World) :
    (do eqGuard op t x y u v; binOp op t u v : Sem Value).run P w = .ok r w ∧ r.oneCell' = true := by
  unfold litBin at h
  split at h
  · rename_i k a k' b
    rw [eqGuard_at_int]
    split at h
    · split at h <;> cases h
      rename_i hb
      exact ⟨by simp [binOp, Op.shift, Int.not_lt.2 hb], rfl⟩
    · split at h <;> cases h
      rename_i hb
      exact ⟨by simp [binOp, Op.shift, Int.not_lt.2 hb], rfl⟩
    · split at h
      · rename_i hk
        subst hk
        cases op <;> simp only [litInt] at h <;> first
          | (cases h; exact ⟨by simp [go_sem], rfl⟩)
          | (split at h <;> cases h; rename_i hb; exact ⟨by simp [go_sem, hb], rfl⟩)
          | cases h
      · cases h
  · rename_i a b
    rw [eqGuard_at_string]
    cases op <;> simp only [litStr] at h <;> first
      | (cases h; exact ⟨by simp [binOp, Op.stringOp], rfl⟩)
      | (split at h <;> cases h; rename_i hb; exact ⟨by simp [binOp, Op.stringOp]; omega, rfl⟩)
      | cases h
  · rename_i a b
    rw [eqGuard_at_bool]
    have hb : boolTy P t = true → P.underlying t = some .bool := fun hb => by
      unfold boolTy at hb
      split at hb
      · assumption
      · cases hb
    cases op <;> simp only at h <;> first
      | (split at h <;> cases h; rename_i hq; exact ⟨by rw [Sem.run_bind]; exact run_eql_bool (hb hq) a b w, rfl⟩)
      | (split at h <;> cases h; rename_i hq; exact ⟨by rw [Sem.run_bind]; exact run_neq_bool (hb hq) a b w, rfl⟩)
      | cases h
  · cases h

theorem rep_lit_inv {g : Ghost} {v u : Value} (h : Rep g (.lit v) u) : u = v := by cases h; rfl

theorem holds_binOp {op : BinOp} {t yt : TypeId} {x y : Operand} {u v r : Value} (ho : o.op = .binOp op t x y yt) (hx : aeval s x = .lit u) (hy : aeval s y = .lit v) (h : litBin P op t u v = some r) :
    OpHolds P o s id [] (.lit r) [] :=
  holds_pure fun g w a hr => by
    have h1 := hr x (by simp [ho, Op.operands])
    have h2 := hr y (by simp [ho, Op.operands])
    rw [hx] at h1
    rw [hy] at h2
    have e1 := rep_lit_inv h1
    have e2 := rep_lit_inv h2
    obtain ⟨hrun, hone⟩ := litBin_sound (x := x) (y := y) h w
    refine ⟨r, ?_, .lit r hone⟩
    simp only [execOp, ho, e1, e2]
    rw [Sem.run_bind, hrun]
    rfl

def litUn (op : UnOp) : Value → Option Value
  | .bool b => match op with
    | .not => some (.bool !b)
    | _ => none
  | .int k n => match op with
    | .neg => some (.int k (k.wrap (0 - n)))
    | .xor => some (.int k (bits .xor k (if k.signed then -1 else k.max) n))
    | _ => none
  | _ => none

theorem holds_unOp {op : UnOp} {t : TypeId} {x : Operand} {u r : Value} (ho : o.op = .unOp op t x) (hx : aeval s x = .lit u) (h : litUn op u = some r) : OpHolds P o s id [] (.lit r) [] :=
  holds_pure fun g w a hr => by
    have h1 := hr x (by simp [ho, Op.operands])
    rw [hx] at h1
    have e1 := rep_lit_inv h1
    cases u <;> simp only [litUn] at h <;> cases op <;> simp at h
    all_goals
      subst h
      refine ⟨_, ?_, .lit _ rfl⟩
      simp [execOp, ho, e1, Op.unary, Op.intArith, intBits_xor]

def intTy (P : Program) (t : TypeId) : Option IntKind :=
  match P.underlying t with
  | some (.int k) => some k
  | _ => none

theorem intTy_sound {t : TypeId} {k : IntKind} (h : intTy P t = some k) : P.underlying t = some (.int k) := by
  unfold intTy at h
  split at h
  · cases h; assumption
  · cases h

theorem holds_convert_int {src dst : TypeId} {x : Operand} {k k' : IntKind} {n : Int} {k0 : IntKind} (ho : o.op = .convert src dst x) (hs : intTy P src = some k0) (hd : intTy P dst = some k') (hx : aeval s x = .lit (.int k n)) :
    OpHolds P o s id [] (.lit (.int k' (k'.wrap n))) [] :=
  holds_pure fun g w a hr => by
    have h1 := hr x (by simp [ho, Op.operands])
    rw [hx] at h1
    have e1 := rep_lit_inv h1
    refine ⟨_, ?_, .lit _ rfl⟩
    simp [execOp, ho, e1, convert, run_underlying (intTy_sound hs), run_underlying (intTy_sound hd), Conv.intToInt]

def strTy (P : Program) (t : TypeId) : Bool :=
  match P.underlying t with
  | some .string => true
  | _ => false
theorem strTy_sound {t : TypeId} (h : strTy P t = true) : P.underlying t = some .string := by
  unfold strTy at h
  split at h
  · assumption
  · cases h

theorem holds_convert_str {src dst : TypeId} {x : Operand} {b : ByteArray} (ho : o.op = .convert src dst x) (hs : strTy P src = true) (hd : strTy P dst = true) (hx : aeval s x = .lit (.string b)) :
    OpHolds P o s id [] (.lit (.string b)) [] :=
  holds_pure fun g w a hr => by
    have h1 := hr x (by simp [ho, Op.operands])
    rw [hx] at h1
    have e1 := rep_lit_inv h1
    refine ⟨_, ?_, .lit _ rfl⟩
    simp [execOp, ho, e1, convert, run_underlying (strTy_sound hs), run_underlying (strTy_sound hd)]

theorem holds_index_str {t : TypeId} {x i : Operand} {b : ByteArray} {k : IntKind} {n : Int} {c : UInt8} (ho : o.op = .index t x i) (ht : strTy P t = true) (hx : aeval s x = .lit (.string b)) (hi : aeval s i = .lit (.int k n))
    (hn : 0 ≤ n) (hc : b.data.toList[n.toNat]? = some c) : OpHolds P o s id [] (.lit (.int .u8 c.toNat)) [] :=
  holds_pure fun g w a hr => by
    have h1 := hr x (by simp [ho, Op.operands])
    have h2 := hr i (by simp [ho, Op.operands])
    rw [hx] at h1
    rw [hi] at h2
    have e1 := rep_lit_inv h1
    have e2 := rep_lit_inv h2
    refine ⟨_, ?_, .lit _ rfl⟩
    have hb : b[n.toNat]? = some c := by
      have hl : n.toNat < b.data.toList.length := (List.getElem?_eq_some_iff.1 hc).1
      have hl' : n.toNat < b.size := by simpa using hl
      rw [getElem?_pos b n.toNat hl']
      have := (List.getElem?_eq_some_iff.1 hc).2
      rw [← this]
      rfl
    simp [execOp, ho, e1, e2, Instr.index, asIntOf, run_underlying (strTy_sound ht), hn, hb]

/-! ### Types -/
def aggDesc : TypeDesc → Bool
  | .struct _ | .array _ _ => true
  | _ => false

def tyIs (P : Program) (t : TypeId) (agg : Bool) (size : Nat) : Bool :=
  match P.underlying t, P.info? t with
  | some d, some i => aggDesc d == agg && i.size == size
  | _, _ => false

theorem tyIs_sound {t : TypeId} {agg : Bool} {size : Nat} (h : tyIs P t agg size = true) (w : World) : (isAgg t).run P w = .ok agg w ∧ (sizeOf t).run P w = .ok size w := by
  unfold tyIs at h
  split at h
  · rename_i d i hd hi
    simp only [Bool.and_eq_true, beq_iff_eq] at h
    refine ⟨?_, by simp [sizeOf, typeInfo, hi, h.2]⟩
    rw [← h.1]
    unfold isAgg
    rw [Sem.run_bind, run_underlying hd]
    cases d <;> rfl
  · cases h

def sizeIs (P : Program) (t : TypeId) (size : Nat) : Bool :=
  match P.info? t with
  | some i => i.size == size
  | _ => false
theorem sizeIs_sound {t : TypeId} {size : Nat} (h : sizeIs P t size = true) : ∃ i, P.info? t = some i ∧ i.size = size := by
  unfold sizeIs at h
  split at h
  · rename_i i hi; exact ⟨i, hi, by simpa using h⟩
  · cases h

def sliceTy (P : Program) (t : TypeId) : Option TypeId :=
  match P.underlying t with
  | some (.slice e) => some e
  | _ => none
theorem sliceTy_sound {t e : TypeId} (h : sliceTy P t = some e) : P.underlying t = some (.slice e) := by
  unfold sliceTy at h
  split at h
  · cases h; assumption
  · cases h

def arrTy (P : Program) (t : TypeId) : Option (Nat × TypeId) :=
  match P.underlying t with
  | some (.array n e) => some (n, e)
  | _ => none
theorem arrTy_sound {t e : TypeId} {n : Nat} (h : arrTy P t = some (n, e)) : P.underlying t = some (.array n e) := by
  unfold arrTy at h
  split at h
  · cases h; assumption
  · cases h

/-! ### Addresses, loads -/
def fieldOff (P : Program) (t : TypeId) (f : Nat) : Option Nat :=
  match P.underlying t with
  | some (.struct fs) => match fs[f]? with
    | some fl => match P.info? fl.type with
      | some i => if i.size = 0 then none else some fl.offset
      | none => none
    | none => none
  | _ => none

theorem fieldOff_sound {t : TypeId} {f k : Nat} (h : fieldOff P t f = some k) (b off : Nat) (w : World) : (Instr.fieldAt t (.pointer (some ⟨b, off, none⟩)) f).run P w = .ok (.pointer (some ⟨b, off + k, none⟩)) w := by
  unfold fieldOff at h
  split at h
  · rename_i fs hfs
    split at h
    · rename_i fl hfl
      split at h
      · rename_i i hi
        split at h <;> cases h
        rename_i hz
        simp [Instr.fieldAt, run_underlying hfs, hfl, Instr.sureAddr, fieldPlace, sizeOf, typeInfo, hi, hz, Addr.add_lit]
      · cases h
    · cases h
  · cases h

theorem holds_fieldAddr_ptr {t : TypeId} {x : Operand} {f k i off : Nat} {path : List Nat} (ho : o.op = .fieldAddr t x f) (hx : aeval s x = .ptr i path off) (hf : fieldOff P t f = some k) :
    OpHolds P o s id [] (.ptr i (path ++ [f]) (off + k)) [] :=
  holds_pure fun g w a hr => by
    have h1 := hr x (by simp [ho, Op.operands])
    rw [hx] at h1
    generalize hv : a.eval x = v at h1
    cases h1 with
    | ptr _ _ _ b hb => exact ⟨_, by simp [execOp, ho, hv, fieldOff_sound hf], .ptr _ _ _ b hb⟩

theorem holds_fieldAddr_view {t : TypeId} {x : Operand} {f k : Nat} {xs : List AV} {y : AV} (ho : o.op = .fieldAddr t x f) (hx : aeval s x = .view (.agg xs)) (hf : fieldOff P t f = some k) (hy : xs[f]? = some y) (hk : AV.szl (xs.take f) = k) :
    OpHolds P o s id [] (.view y) [] :=
  holds_pure fun g w a hr => by
    have h1 := hr x (by simp [ho, Op.operands])
    rw [hx] at h1
    generalize hv : a.eval x = v at h1
    cases h1 with
    | view _ v b off h hc =>
      obtain ⟨u, hu, _, hcu⟩ := h.get (path := [f]) (y := y) (by simp [AV.get, hy])
      refine ⟨_, by simp [execOp, ho, hv, fieldOff_sound hf], .view y u b (off + k) hu fun j x hx => ?_⟩
      have := hc _ _ (hcu j x hx)
      simp only [AV.offs, hy, Nat.add_zero] at this
      rw [← this]; congr 1; omega

theorem holds_indexAddr_slice {t e : TypeId} {x i : Operand} {own : Option Nat} {xs : List AV} {y : AV} {k : IntKind} {n : Int} (ho : o.op = .indexAddr t x i) (ht : sliceTy P t = some e) (hx : AV.le (aeval s x) (.slice own xs)) (hi : aeval s i = .lit (.int k n))
    (hn : 0 ≤ n) (hy : xs[n.toNat]? = some y) (hs : sizeIs P e y.sz = true) : OpHolds P o s id [] (.view y) [] :=
  holds_read (fun p hp => (by cases hp)) fun W0 g σ nn w a hS hr _ => by
    have h1 := hx _ _ (hr x (by simp [ho, Op.operands]))
    have h2 := hr i (by simp [ho, Op.operands])
    rw [hi] at h2
    have e2 := rep_lit_inv h2
    generalize hv : a.eval x = v at h1
    obtain ⟨ie, hie, hsz⟩ := sizeIs_sound hs
    have hlt : n.toNat < xs.length := (List.getElem?_eq_some_iff.1 hy).1
    cases h1 with
    | slice _ _ vs A c size hl hc hm h hsv hcell hown =>
      have hvl : n.toNat < vs.length := by omega
      have hvi : vs[n.toNat]? = some vs[n.toNat] := List.getElem?_eq_getElem hvl
      have hry := h _ _ _ hy hvi
      have hsize : size = y.sz := by rw [← hsv _ (List.getElem_mem hvl), hry.size]
      subst hsize
      have hat := flat_at vs y.sz hsv n.toNat _ hvi
      have run : ∀ b o', A = some ⟨b, o', none⟩ → (execOp a.eval o).run P w = .ok (.value (.pointer (some ⟨b, o' + n.toNat * y.sz, none⟩))) w := fun b o' hA => by
        simp [execOp, ho, hv, e2, Instr.indexAt, asIntOf, run_underlying (sliceTy_sound ht), hA, sizeOf, typeInfo, hie, hsz, Addr.add_lit]
        omega
      rcases hcell with h0 | ⟨b, o', hA, hG⟩
      · omega
      · exact ⟨_, run b o' hA, .view y _ b _ hry fun j u hu => by have := hG _ _ (hat j u hu); rw [← this]; congr 1; omega⟩
end
end Go.Ab
