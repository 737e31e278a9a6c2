/- Are two structs, or two arrays of bytes, one? Strings as lists of bytes. v, ok := x.(T). -/
import Derived.Test.YtaelnglalpiemaaDoorA14
import Derived.Laws.StructEq
import Derived.ChangeKeysEq
namespace Go.Ab
open Go.RowKit

/-- What is asked of two values of a type that are compared. -/
inductive EqSh where
  | bool
  | int
  | str
  | bytes (n : Nat)
  | agg (l : List EqSh)

mutual
def EqSh.size : EqSh → Nat
  | .bytes n => n
  | .agg l => EqSh.sizes l
  | _ => 1
def EqSh.sizes : List EqSh → Nat
  | [] => 0
  | x :: r => EqSh.size x + EqSh.sizes r
end
def EqSh.isAgg : EqSh → Bool
  | .bytes _ => true
  | .agg _ => true
  | _ => false

def bytesOf0 : List AV → Option (List UInt8)
  | [] => some []
  | .lit (.int .u8 n) :: r => if 0 ≤ n ∧ n < 256 then (bytesOf0 r).map (UInt8.ofNat n.toNat :: ·) else none
  | _ :: _ => none

theorem bytesOf0_sound : ∀ {xs : List AV} {bs : List UInt8}, bytesOf0 xs = some bs → xs = bs.map byteAV
  | [], bs, h => by simp [bytesOf0] at h; subst h; rfl
  | x :: r, bs, h => by
    unfold bytesOf0 at h
    split at h
    · rename_i e; simp at e
    · rename_i n r' e
      simp at e
      obtain ⟨rfl, rfl⟩ := e
      split at h
      · rename_i hn
        cases hr : bytesOf0 r with
        | none => rw [hr] at h; cases h
        | some q =>
          rw [hr] at h
          cases h
          rw [bytesOf0_sound hr]
          simp only [List.map_cons, byteAV]
          congr 3
          rw [UInt8.toNat_ofNat']
          omega
      · cases h
    · cases h

theorem bytesOf0_map (bs : List UInt8) : bytesOf0 (bs.map byteAV) = some bs := by
  induction bs with
  | nil => rfl
  | cons b r ih =>
    have := b.toNat_lt
    simp only [List.map_cons, byteAV, bytesOf0, Int.toNat_natCast, UInt8.ofNat_toNat]
    rw [if_pos (by omega)]
    rw [ih]
    rfl

mutual
def eqA : EqSh → AV → AV → Option Bool
  | .bool, .lit (.bool a), .lit (.bool b) => some (a == b)
  | .int, .lit (.int k a), .lit (.int k' b) => if k = k' then some (a == b) else none
  | .str, .lit (.string a), .lit (.string b) => some (a.toList == b.toList)
  | .bytes n, .agg xs, .agg ys => match bytesOf0 xs, bytesOf0 ys with
    | some a, some b => if a.length = n ∧ b.length = n then some (a == b) else none
    | _, _ => none
  | .agg l, .agg xs, .agg ys => eqAs l xs ys
  | _, _, _ => none
def eqAs : List EqSh → List AV → List AV → Option Bool
  | [], [], [] => some true
  | s :: l, x :: xs, y :: ys => match eqA s x y, eqAs l xs ys with
    | some a, some b => some (a && b)
    | _, _ => none
  | _, _, _ => none
end

def fieldsOK (P : Program) : List Field → List EqSh → Nat → Bool
  | [], [], _ => true
  | f :: fs, s :: l, off => f.name != "_" && f.offset == off && tyIs P f.type s.isAgg s.size && fieldsOK P fs l (off + s.size)
  | _, _, _ => false

def eqShape (P : Program) : Nat → TypeId → Option EqSh
  | 0, _ => none
  | m + 1, t => match P.underlying t with
    | some .bool => some .bool
    | some (.int _) => some .int
    | some .string => some .str
    | some (.array n e) => match P.underlying e, P.info? e with
      | some (.int .u8), some i => if i.size == 1 then some (.bytes n) else none
      | _, _ => none
    | some (.struct fs) => match fs.toList.mapM fun f => eqShape P m f.type with
      | some l => if fieldsOK P fs.toList l 0 && !(P.stoodInHeld t) && (P.info? t).isSome then some (.agg l) else none
      | none => none
    | _ => none

section
variable {P : Program}

theorem run_part {g : Ghost} {x : AV} {v : Value} (hr : Rep g x v) {t : TypeId} (ht : tyIs P t x.isAgg x.sz = true) (hx : x.isAgg = true ∨ x.one = true) {cs : Array Value} {off : Nat} (hc : ∀ (j : Nat) (u : Value), v.cells.toList[j]? = some u → cs.toList[off + j]? = some u) (hfit : off + v.cells.size ≤ cs.size) (w : World) :
    (part t cs off).run P w = .ok v w := by
  obtain ⟨h1, h2⟩ := tyIs_sound ht w
  unfold part
  rw [Sem.run_bind, h1]
  simp only [Result.andThen_ok]
  cases ha : x.isAgg with
  | true =>
    cases hr <;> simp [AV.isAgg] at ha
    case agg xs vs hvl hvr =>
      simp only [if_true, Sem.run_bind, h2, Result.andThen_ok, Sem.run_pure]
      have hsz : (flat vs).length = (AV.agg xs).sz := by
        have := (Rep.agg (g := g) xs vs hvl hvr).size
        simpa [Value.cells] using this
      congr 2
      apply Array.ext'
      simp only [cells_agg, List.size_toArray] at hfit
      have e : (cs.extract off (off + (AV.agg xs).sz)).toList = (cs.toList.drop off).take (AV.agg xs).sz := by
        simp [Array.toList_extract, List.extract]
      rw [e, ← hsz]
      apply List.ext_getElem?
      intro j
      rw [List.getElem?_take]
      split
      · rename_i hj
        rw [List.getElem?_drop, List.getElem?_eq_getElem hj]
        exact hc j _ (by rw [cells_agg, List.toList_toArray, List.getElem?_eq_getElem hj])
      · rename_i hj
        symm
        rw [List.getElem?_eq_none_iff]
        simp only [List.toList_toArray]
        omega
  | false =>
    have h1' : x.one = true := by
      rcases hx with hx | hx
      · rw [ha] at hx; cases hx
      · exact hx
    have hcv := hr.cells_one h1'
    have := hc 0 v (by rw [hcv]; rfl)
    simp only [Nat.add_zero, Array.getElem?_toList] at this
    simp only [Bool.false_eq_true, if_false, this, Sem.run_pure]

def EqRes (P : Program) (d : Nat) (t : TypeId) (x y : AV) (r : Bool) : Prop := ∀ (g : Ghost) (u v : Value) (w : World), Rep g x u → Rep g y v → (Op.equalIn d t u v).run P w = .ok r w

theorem eqA_form {sh : EqSh} {x y : AV} {r : Bool} (h : eqA sh x y = some r) : x.isAgg = sh.isAgg ∧ y.isAgg = sh.isAgg ∧ (x.isAgg = true ∨ x.one = true) ∧ (y.isAgg = true ∨ y.one = true) := by
  unfold eqA at h
  split at h <;> first | (cases h; done) | simp [AV.isAgg, EqSh.isAgg, AV.one]

mutual
theorem eqA_size {g : Ghost} : ∀ {sh : EqSh} {x y : AV} {r : Bool}, eqA sh x y = some r → x.sz = sh.size ∧ y.sz = sh.size
  | .bool, x, y, r, h => by
    unfold eqA at h
    split at h <;> first | (cases h; done) | simp_all [AV.sz, EqSh.size]
  | .int, x, y, r, h => by
    unfold eqA at h
    split at h <;> first | (cases h; done) | simp_all [AV.sz, EqSh.size]
  | .str, x, y, r, h => by
    unfold eqA at h
    split at h <;> first | (cases h; done) | simp_all [AV.sz, EqSh.size]
  | .bytes n, x, y, r, h => by
    unfold eqA at h
    split at h <;> first | (cases h; done) | skip
    all_goals try (rename_i e; cases e; done)
    rename_i n' xs ys e
    cases e
    split at h
    · rename_i a b ha hb
      split at h
      · rename_i hl
        rw [bytesOf0_sound ha, bytesOf0_sound hb]
        have hu : ∀ l : List UInt8, AV.szl (l.map byteAV) = l.length := fun l => by
          rw [AV.szl_uniform _ 1 fun x hx => by obtain ⟨b, _, rfl⟩ := List.mem_map.1 hx; rfl]; simp
        simp only [AV.sz, hu, EqSh.size]
        exact hl
      · cases h
    · cases h
  | .agg l, x, y, r, h => by
    unfold eqA at h
    split at h <;> first | (cases h; done) | skip
    all_goals try (rename_i e; cases e; done)
    rename_i l' xs ys e
    cases e
    have := eqAs_size (g := g) h
    simpa only [AV.sz, EqSh.size] using this
theorem eqAs_size {g : Ghost} : ∀ {l : List EqSh} {xs ys : List AV} {r : Bool}, eqAs l xs ys = some r → AV.szl xs = EqSh.sizes l ∧ AV.szl ys = EqSh.sizes l
  | [], xs, ys, r, h => by
    unfold eqAs at h
    split at h <;> first | (cases h; done) | simp_all [AV.szl, EqSh.sizes]
  | s :: l, xs, ys, r, h => by
    unfold eqAs at h
    split at h <;> first | (cases h; done) | skip
    all_goals try (rename_i e; cases e; done)
    rename_i s' l' x xs y ys e
    cases e
    split at h
    · rename_i a b ha hb
      obtain ⟨h1, h2⟩ := eqA_size (g := g) ha
      obtain ⟨h3, h4⟩ := eqAs_size (g := g) hb
      simp only [AV.szl, EqSh.sizes, h1, h2, h3, h4, and_self]
    · cases h
end

theorem eqFields_sound (d : Nat) (g : Ghost) (w : World) : ∀ (fs : List Field) (l : List EqSh) (off : Nat) (xs ys : List AV) (us vs : List Value) (cx cy : Array Value) (r : Bool), fieldsOK P fs l off = true → eqAs l xs ys = some r →
    (∀ (i : Nat) (f : Field) (s : EqSh), fs[i]? = some f → l[i]? = some s → ∀ x y r, eqA s x y = some r → EqRes P d f.type x y r) →
    us.length = xs.length → vs.length = ys.length → (∀ (i : Nat) (x : AV) (v : Value), xs[i]? = some x → us[i]? = some v → Rep g x v) → (∀ (i : Nat) (x : AV) (v : Value), ys[i]? = some x → vs[i]? = some v → Rep g x v) →
    (∀ (j : Nat) (u : Value), (flat us)[j]? = some u → cx.toList[off + j]? = some u) → (∀ (j : Nat) (u : Value), (flat vs)[j]? = some u → cy.toList[off + j]? = some u) → off + (flat us).length ≤ cx.size → off + (flat vs).length ≤ cy.size →
    (Op.eqFields d cx cy fs).run P w = .ok r w
  | [], l, off, xs, ys, us, vs, cx, cy, r, hf, he, _, _, _, _, _, _, _, _, _ => by
    cases l with
    | nil =>
      cases xs <;> cases ys <;> simp [eqAs] at he
      subst he
      simp [Op.eqFields]
    | cons s l => simp [fieldsOK] at hf
  | f :: fs, l, off, xs, ys, us, vs, cx, cy, r, hf, he, IH, hul, hvl, hur, hvr, hcx, hcy, hlx, hly => by
    cases l with
    | nil => simp [fieldsOK] at hf
    | cons s l =>
      simp only [fieldsOK, Bool.and_eq_true, bne_iff_ne, ne_eq, beq_iff_eq] at hf
      obtain ⟨⟨⟨hn, ho⟩, ht⟩, hrest⟩ := hf
      cases xs with
      | nil => cases ys <;> simp [eqAs] at he
      | cons x xs =>
      cases ys with
      | nil => simp [eqAs] at he
      | cons y ys =>
      unfold eqAs at he
      split at he
      · rename_i a b ha hb
        cases he
        cases us with
        | nil => simp at hul
        | cons u us =>
        cases vs with
        | nil => simp at hvl
        | cons v vs =>
        have hru : Rep g x u := hur 0 x u rfl rfl
        have hrv : Rep g y v := hvr 0 y v rfl rfl
        obtain ⟨f1, f2, f3, f4⟩ := eqA_form ha
        obtain ⟨z1, z2⟩ := eqA_size (g := g) ha
        rw [flat_cons] at hcx hcy hlx hly
        have lu : u.cells.toList.length = s.size := by rw [Array.length_toList, hru.size, z1]
        have lv : v.cells.toList.length = s.size := by rw [Array.length_toList, hrv.size, z2]
        rw [List.length_append, lu] at hlx
        rw [List.length_append, lv] at hly
        have p1 := run_part (P := P) hru (t := f.type) (by rw [f1, z1]; exact ht) f3 (cs := cx) (off := f.offset) (fun j q hq => by
          rw [ho]
          refine hcx j q ?_
          rw [List.getElem?_append_left (List.getElem?_eq_some_iff.1 hq).1]; exact hq) (by rw [ho, ← Array.length_toList, lu]; omega) w
        have p2 := run_part (P := P) hrv (t := f.type) (by rw [f2, z2]; exact ht) f4 (cs := cy) (off := f.offset) (fun j q hq => by
          rw [ho]
          refine hcy j q ?_
          rw [List.getElem?_append_left (List.getElem?_eq_some_iff.1 hq).1]; exact hq) (by rw [ho, ← Array.length_toList, lv]; omega) w
        have p3 := IH 0 f s rfl rfl x y a ha g u v w hru hrv
        have p4 := eqFields_sound d g w fs l (off + s.size) xs ys us vs cx cy b hrest hb (fun i f' s' h1 h2 => IH (i + 1) f' s' h1 h2) (by simpa using hul) (by simpa using hvl) (fun i x v h1 h2 => hur (i + 1) x v h1 h2) (fun i x v h1 h2 => hvr (i + 1) x v h1 h2)
          (fun j q hq => by
            have := hcx (s.size + j) q (by rw [List.getElem?_append_right (by omega), lu, Nat.add_sub_cancel_left]; exact hq)
            rw [Nat.add_assoc]; exact this) (fun j q hq => by
            have := hcy (s.size + j) q (by rw [List.getElem?_append_right (by omega), lv, Nat.add_sub_cancel_left]; exact hq)
            rw [Nat.add_assoc]; exact this) (by omega) (by omega)
        simp only [Op.eqFields, hn, ne_eq, not_false_eq_true, if_true, Sem.run_bind, p1, p2, p3, Result.andThen_ok]
        cases a
        · simp
        · simpa using p4
      · cases he

theorem mapM_at {α β : Type} {F : α → Option β} : ∀ {l : List α} {r : List β}, l.mapM F = some r → ∀ (i : Nat) (x : α) (y : β), l[i]? = some x → r[i]? = some y → F x = some y
  | [], r, h => by intro i x y hx; simp at hx
  | a :: l, r, h => by
    rw [List.mapM_cons] at h
    simp only [bind, Option.bind_eq_some_iff, pure, Option.some.injEq] at h
    obtain ⟨b, hb, bs, hbs, rfl⟩ := h
    intro i x y hx hy
    cases i with
    | zero => simp at hx hy; subst hx; subst hy; exact hb
    | succ i => exact mapM_at hbs i x y (by simpa using hx) (by simpa using hy)

theorem run_eqBytes (d : Nat) {e : TypeId} (he : P.underlying e = some (.int .u8)) (w : World) (a b : List UInt8) (hl : a.length = b.length) : ∀ (k i : Nat), i + k = a.length →
    (Op.eqItems (d + 1) e 1 (a.map fun c => Value.int .u8 (c.toNat : Int)).toArray (b.map fun c => Value.int .u8 (c.toNat : Int)).toArray (List.range' i k)).run P w = .ok (a.drop i == b.drop i) w
  | 0, i, hi => by
    simp [Op.eqItems]
    rw [List.drop_eq_nil_of_le (by omega), List.drop_eq_nil_of_le (by omega)]
  | k + 1, i, hi => by
    have h1 : i < a.length := by omega
    have h2 : i < b.length := by omega
    have ha : (isAgg e).run P w = .ok false w := by simp [isAgg, run_underlying he]
    have pa : ∀ c : List UInt8, (hc : i < c.length) → (part e (c.map fun c => Value.int .u8 (c.toNat : Int)).toArray (i * 1)).run P w = .ok (.int .u8 (c[i].toNat : Int)) w := fun c hc => by
      simp [part, ha, hc]
    have ih := run_eqBytes d he w a b hl k (i + 1) (by omega)
    have hdec : ((a[i].toNat : Int) == (b[i].toNat : Int)) = (a[i] == b[i]) := by
      rw [Bool.eq_iff_iff]
      simp only [beq_iff_eq]
      constructor
      · intro h; exact UInt8.toNat_inj.1 (by omega)
      · intro h; rw [h]
    rw [List.range'_succ]
    simp only [Op.eqItems, Sem.run_bind, pa a h1, pa b h2, Result.andThen_ok, run_equalIn_int w d e .u8 .u8 _ _ he, hdec]
    rw [List.drop_eq_getElem_cons h1, List.drop_eq_getElem_cons h2]
    cases hb : a[i] == b[i]
    · have : (a[i] :: a.drop (i + 1) == b[i] :: b.drop (i + 1)) = false := by
        simp only [List.cons_beq_cons, hb, Bool.false_and]
      rw [this]; simp
    · have : (a[i] :: a.drop (i + 1) == b[i] :: b.drop (i + 1)) = (a.drop (i + 1) == b.drop (i + 1)) := by
        simp only [List.cons_beq_cons, hb, Bool.true_and]
      rw [this]; simpa using ih

theorem sz1_one {x : AV} (h : x.isAgg = false) (h2 : x.one = true) {g : Ghost} {v : Value} (hr : Rep g x v) : v.cells = #[v] := hr.cells_one h2

theorem eqShape_sound : ∀ (m : Nat) (t : TypeId) (sh : EqSh), eqShape P m t = some sh → ∀ (d : Nat) (x y : AV) (r : Bool), eqA sh x y = some r → EqRes P (d + m + 1) t x y r
  | 0, t, sh, h => by simp [eqShape] at h
  | m + 1, t, sh, h => by
    intro d x y r he g u v w hu hv
    unfold eqShape at h
    split at h
    · rename_i ht
      cases h
      unfold eqA at he
      split at he <;> first | (cases he; done) | skip
      all_goals try (rename_i e; cases e; done)
      cases he
      rw [rep_lit_inv hu, rep_lit_inv hv]
      exact run_equalIn_bool ht _ _ _ w
    · rename_i k ht
      cases h
      unfold eqA at he
      split at he <;> first | (cases he; done) | skip
      all_goals try (rename_i e; cases e; done)
      split at he
      · rename_i hk
        subst hk
        cases he
        rw [rep_lit_inv hu, rep_lit_inv hv]
        exact run_equalIn_int w _ t _ _ _ _ ht
      · cases he
    · rename_i ht
      cases h
      unfold eqA at he
      split at he <;> first | (cases he; done) | skip
      all_goals try (rename_i e; cases e; done)
      cases he
      rw [rep_lit_inv hu, rep_lit_inv hv]
      exact run_equalIn_string w _ t _ _ ht
    · rename_i n e ht
      split at h
      · rename_i i he' hi
        split at h
        · rename_i hsz
          cases h
          unfold eqA at he
          split at he <;> first | (cases he; done) | skip
          all_goals try (rename_i e; cases e; done)
          rename_i n' xs ys e1
          cases e1
          split at he
          · rename_i a b ha hb
            split at he
            · rename_i hl
              cases he
              obtain ⟨hl1, hl2⟩ := hl
              rw [bytesOf0_sound ha] at hu
              rw [bytesOf0_sound hb] at hv
              cases hu with
              | agg _ us hul hur =>
              cases hv with
              | agg _ vs hvl hvr =>
              rw [rep_bytes hul hur, rep_bytes hvl hvr, flat_lits _ (fun v hv => by obtain ⟨b, _, rfl⟩ := List.mem_map.1 hv; rfl), flat_lits _ (fun v hv => by obtain ⟨b, _, rfl⟩ := List.mem_map.1 hv; rfl)]
              have hc : P.cellsOf e = 1 := by
                simp only [Program.cellsOf, hi]
                simpa using hsz
              rw [show d + (m + 1) + 1 = (d + m + 1) + 1 from by omega, run_equalIn_array w (d + m + 1) _ _ ht hi, hc, List.range_eq_range']
              have := run_eqBytes (P := P) (d + m) he' w a b (by omega) n 0 (by omega)
              simpa using this
            · cases he
          · cases he
        · cases h
      · cases h
    · rename_i fs ht
      split at h
      · rename_i l hl
        split at h
        · rename_i hc
          cases h
          simp only [Bool.and_eq_true, Bool.not_eq_true'] at hc
          obtain ⟨⟨hc1, hc2⟩, _⟩ := hc
          unfold eqA at he
          split at he <;> first | (cases he; done) | skip
          all_goals try (rename_i e; cases e; done)
          rename_i l' xs ys e1
          cases e1
          cases hu with
          | agg _ us hul hur =>
          cases hv with
          | agg _ vs hvl hvr =>
          have hfs : P.fieldsOf t = fs := by simp [Program.fieldsOf, ht]
          rw [show d + (m + 1) + 1 = (d + m + 1) + 1 from by omega, run_equalIn_struct w (d + m + 1) t _ _ (by rw [hfs]; exact ht) hc2, hfs]
          exact eqFields_sound (P := P) (d + m + 1) g w fs.toList l 0 xs ys us vs _ _ r hc1 he (fun i f s h1 h2 x y r hr => eqShape_sound m f.type s (mapM_at hl i f s h1 h2) d x y r hr) hul hvl hur hvr
            (fun j q hq => by rw [Nat.zero_add]; exact hq) (fun j q hq => by rw [Nat.zero_add]; exact hq) (by simp) (by simp)
        · cases h
      · cases h
    · cases h

/-- A type whose values are compared part by part. -/
def eqTop (P : Program) (t : TypeId) : Option EqSh := if P.eqGuardType P.depth t then none else eqShape P 8 t

def evEqA (P : Program) (op : BinOp) (t : TypeId) (x y : AV) : Option Bool :=
  match eqTop P t with
  | some sh => match eqA sh x y with
    | some r => match op with
      | .eql => some r
      | .neq => some !r
      | _ => none
    | none => none
  | none => none

theorem holds_eqA {o : Oper} {s : Slots} {id : Nat} {op : BinOp} {t yt : TypeId} {x y : Operand} {xs ys : List AV} {r : Bool} (ho : o.op = .binOp op t x y yt) (hx : aeval s x = .agg xs) (hy : aeval s y = .agg ys) (h : evEqA P op t (.agg xs) (.agg ys) = some r) :
    OpHolds P o s id [] (.lit (.bool r)) [] :=
  holds_pure fun g w a hr => by
    have h1 := hr x (by simp [ho, Op.operands])
    have h2 := hr y (by simp [ho, Op.operands])
    rw [hx] at h1
    rw [hy] at h2
    refine ⟨.bool r, ?_, .lit _ rfl⟩
    unfold evEqA eqTop at h
    split at h
    · rename_i sh hsh
      split at hsh
      · cases hsh
      · rename_i hg
        split at h
        · rename_i r0 hr0
          generalize hX : a.eval x = X at h1
          generalize hY : a.eval y = Y at h2
          have hrun := eqShape_sound (P := P) 8 t sh hsh 9991 _ _ r0 hr0 g _ _ w h1 h2
          cases h1 with
          | agg _ us _ _ =>
          cases h2 with
          | agg _ vs _ _ =>
          have hg' : P.eqGuardType P.depth t = false := by simpa using hg
          have hgd := fun op => run_eqGuard_agg (P := P) w op t x y (flat us).toArray (flat vs).toArray hg'
          split at h
          · cases h
            have := run_eql_struct (P := P) w t (flat us).toArray (flat vs).toArray
            rw [hrun] at this
            simp only [Result.andThen_ok] at this
            simp only [execOp, ho, hX, hY, Sem.run_bind, hgd, Result.andThen_ok, this, Sem.run_pure]
          · cases h
            have := run_neq_struct (P := P) w t (flat us).toArray (flat vs).toArray
            rw [hrun] at this
            simp only [Result.andThen_ok] at this
            simp only [execOp, ho, hX, hY, Sem.run_bind, hgd, Result.andThen_ok, this, Sem.run_pure]
          · cases h
        · cases h
    · cases h

/-! ### v, ok := x.(T) -/
theorem holds_typeAssert {o : Oper} {s : Slots} {id : Nat} {x : Operand} {xt at' : TypeId} {v : AV} (ho : o.op = .typeAssert x xt at' true) (h : assertT P at' (aeval s x) = some v) : OpHolds P o s id [] v [] :=
  holds_pure fun g w a hr => by
    have h1 := hr x (by simp [ho, Op.operands])
    unfold assertT at h
    split at h
    · rename_i hc
      obtain ⟨d, hd, hni⟩ := concrete_desc hc
      generalize hX : a.eval x = X at h1
      split at h
      · rename_i t y hy
        rw [hy] at h1
        cases h1 with
        | iface _ _ u hu =>
          split at h
          · rename_i htt
            subst htt
            cases h
            refine ⟨.tuple #[u, .bool true], ?_, ?_⟩
            · simp only [execOp, ho, hX, Sem.run_bind, Instr.typeAssert, run_underlying hd, Result.andThen_ok]
              cases d <;> first | (exact absurd rfl (hni _)) | simp
            · refine .tup [y, .lit (.bool true)] [u, .bool true] rfl fun i x v hx hv => ?_
              match i with
              | 0 => simp at hx hv; subst hx; subst hv; exact hu
              | 1 => simp at hx hv; subst hx; subst hv; exact .lit _ rfl
              | n + 2 => simp at hx
          · rename_i htt
            simp only [Option.map_eq_some_iff] at h
            obtain ⟨z, hz, rfl⟩ := h
            obtain ⟨i, zv, hi, hzv, hrz⟩ := ztree_sound hz g
            refine ⟨.tuple #[zv, .bool false], ?_, ?_⟩
            · simp only [execOp, ho, hX, Sem.run_bind, Instr.typeAssert, run_underlying hd, Result.andThen_ok]
              cases d <;> first | (exact absurd rfl (hni _)) | simp [htt, zeroValue, typeInfo, hi, hzv]
            · refine .tup [z, .lit (.bool false)] [zv, .bool false] rfl fun i x v hx hv => ?_
              match i with
              | 0 => simp at hx hv; subst hx; subst hv; exact hrz
              | 1 => simp at hx hv; subst hx; subst hv; exact .lit _ rfl
              | n + 2 => simp at hx
      · rename_i hy
        rw [hy] at h1
        have e := rep_lit_inv h1
        subst e
        simp only [Option.map_eq_some_iff] at h
        obtain ⟨z, hz, rfl⟩ := h
        obtain ⟨i, zv, hi, hzv, hrz⟩ := ztree_sound hz g
        refine ⟨.tuple #[zv, .bool false], ?_, ?_⟩
        · simp only [execOp, ho, hX, Sem.run_bind, Instr.typeAssert, run_underlying hd, Result.andThen_ok]
          cases d <;> first | (exact absurd rfl (hni _)) | simp [zeroValue, typeInfo, hi, hzv]
        · refine .tup [z, .lit (.bool false)] [zv, .bool false] rfl fun i x v hx hv => ?_
          match i with
          | 0 => simp at hx hv; subst hx; subst hv; exact hrz
          | 1 => simp at hx hv; subst hx; subst hv; exact .lit _ rfl
          | n + 2 => simp at hx
      · cases h
    · cases h
end
end Go.Ab
