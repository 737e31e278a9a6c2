/- Code: the walk of a body at the level of values (aw), loops, calls by contract (ACall), and that a contract follows from the walk of the body. -/
import Derived.Test.YtaelnglalpiemaaDoorA16
namespace Go.Ab
open Go.RowKit

/-! ### An operation, by a function -/
def bytesOf : List AV → Option (List UInt8)
  | [] => some []
  | .lit (.int .u8 n) :: r => if 0 ≤ n ∧ n < 256 then (bytesOf r).map (UInt8.ofNat n.toNat :: ·) else none
  | _ :: _ => none

theorem bytesOf_sound : ∀ {xs : List AV} {bs : List UInt8}, bytesOf xs = some bs → xs = bs.map byteAV
  | [], bs, h => by simp [bytesOf] at h; subst h; rfl
  | .lit (.int .u8 n) :: r, bs, h => by
    simp only [bytesOf] at h
    split at h
    · rename_i hn
      cases hr : bytesOf r with
      | none => rw [hr] at h; cases h
      | some q =>
        rw [hr] at h
        cases h
        rw [bytesOf_sound hr]
        simp only [List.map_cons, byteAV]
        congr 3
        rw [UInt8.toNat_ofNat']
        omega
    · cases h
  | .any :: _, _, h => by simp [bytesOf] at h
  | .nils :: _, _, h => by simp [bytesOf] at h
  | .slice _ _ :: _, _, h => by simp [bytesOf] at h
  | .agg _ :: _, _, h => by simp [bytesOf] at h
  | .ptr _ _ _ :: _, _, h => by simp [bytesOf] at h
  | .view _ :: _, _, h => by simp [bytesOf] at h
  | .fn _ _ :: _, _, h => by simp [bytesOf] at h
  | .tup _ :: _, _, h => by simp [bytesOf] at h
  | .lit (.bool _) :: _, _, h => by simp [bytesOf] at h
  | .lit (.float _ _) :: _, _, h => by simp [bytesOf] at h
  | .lit (.complex _ _ _) :: _, _, h => by simp [bytesOf] at h
  | .lit (.string _) :: _, _, h => by simp [bytesOf] at h
  | .lit (.pointer _) :: _, _, h => by simp [bytesOf] at h
  | .lit (.slice _ _ _) :: _, _, h => by simp [bytesOf] at h
  | .lit (.map _) :: _, _, h => by simp [bytesOf] at h
  | .lit (.chan _) :: _, _, h => by simp [bytesOf] at h
  | .lit (.func _ _ _) :: _, _, h => by simp [bytesOf] at h
  | .lit .nilFunc :: _, _, h => by simp [bytesOf] at h
  | .lit (.iface _ _) :: _, _, h => by simp [bytesOf] at h
  | .lit .nilIface :: _, _, h => by simp [bytesOf] at h
  | .lit (.agg _) :: _, _, h => by simp [bytesOf] at h
  | .lit (.tuple _) :: _, _, h => by simp [bytesOf] at h
  | .lit (.int .u16 _) :: _, _, h => by simp [bytesOf] at h
  | .lit (.int .u32 _) :: _, _, h => by simp [bytesOf] at h
  | .lit (.int .u64 _) :: _, _, h => by simp [bytesOf] at h
  | .lit (.int .i8 _) :: _, _, h => by simp [bytesOf] at h
  | .lit (.int .i16 _) :: _, _, h => by simp [bytesOf] at h
  | .lit (.int .i32 _) :: _, _, h => by simp [bytesOf] at h
  | .lit (.int .i64 _) :: _, _, h => by simp [bytesOf] at h

theorem bytesOf_map (bs : List UInt8) : bytesOf (bs.map byteAV) = some bs := by
  induction bs with
  | nil => rfl
  | cons b r ih =>
    have := b.toNat_lt
    simp only [List.map_cons, byteAV, bytesOf, Int.toNat_natCast, UInt8.ofNat_toNat]
    rw [if_pos (by omega)]
    rw [ih]
    rfl

/-- What a slice's type is made of: the element's type, its cells, its bytes, its zero. -/
def sliceInfo (P : Program) (t : TypeId) : Option (TypeId × Nat × Nat × AV) :=
  match sliceTy P t with
  | some e => match P.info? e, ztree P e with
    | some i, some z => if z.sz == i.size && (0 < i.size : Bool) then some (e, i.size, i.bytes, z) else none
    | _, _ => none
  | none => none

theorem sliceInfo_sound {P : Program} {t e : TypeId} {size bytes : Nat} {z : AV} (h : sliceInfo P t = some (e, size, bytes, z)) :
    sliceTy P t = some e ∧ sizeIs P e size = true ∧ bytesIs P e bytes = true ∧ ztree P e = some z ∧ z.sz = size ∧ 0 < size := by
  unfold sliceInfo at h
  split at h
  · rename_i e' he
    split at h
    · rename_i i z' hi hz
      split at h
      · rename_i hc
        cases h
        simp at hc
        exact ⟨he, by simp [sizeIs, hi], by simp [bytesIs, hi], hz, hc.1, hc.2⟩
      · cases h
    · cases h
  · cases h

def tyInfo (P : Program) (t : TypeId) : Option (Bool × Nat) :=
  match P.underlying t, P.info? t with
  | some d, some i => some (aggDesc d, i.size)
  | _, _ => none

theorem tyInfo_sound {P : Program} {t : TypeId} {a : Bool} {n : Nat} (h : tyInfo P t = some (a, n)) : tyIs P t a n = true ∧ sizeIs P t n = true := by
  unfold tyInfo at h
  split at h
  · rename_i d i hd hi
    cases h
    simp [tyIs, sizeIs, hd, hi]
  · cases h

def arrInfo (P : Program) (t : TypeId) : Option (Nat × TypeId × Nat) :=
  match arrTy P t with
  | some (n, e) => match P.info? e with
    | some i => some (n, e, i.size)
    | none => none
  | none => none

theorem arrInfo_sound {P : Program} {t e : TypeId} {n size : Nat} (h : arrInfo P t = some (n, e, size)) : arrTy P t = some (n, e) ∧ sizeIs P e size = true := by
  unfold arrInfo at h
  split at h
  · rename_i n' e' he
    split at h
    · rename_i i hi
      cases h
      exact ⟨he, by simp [sizeIs, hi]⟩
    · cases h
  · cases h

def evBox (σ : Nat → Ent) (i : Nat) : Option (TypeId × AV × Bool) :=
  match σ i with
  | .box t x => some (t, x, true)
  | .fbox t x => some (t, x, false)
  | _ => none

def evPick (s : Slots) (c x y : Operand) : Option Step :=
  match aeval s c with
  | .lit (.bool t) => some ⟨[], pickAV t (aeval s x) (aeval s y), []⟩
  | _ => none

def evExtract (s : Slots) (x : Operand) (i : Nat) : Option Step :=
  match aeval s x with
  | .tup xs => match xs[i]? with
    | some y => some ⟨[], y, []⟩
    | none => none
  | _ => none

def evNilCheck (s : Slots) (x : Operand) : Option Step :=
  match aeval s x with
  | .ptr i p q => some ⟨[], .ptr i p q, []⟩
  | .view y => some ⟨[], .view y, []⟩
  | .fn f xs => some ⟨[], .fn f xs, []⟩
  | _ => none

def evMakeFunc (s : Slots) (fn : Fn) (first : List Operand) (cap : Array Operand) : Option Step :=
  match fn, first with
  | .func f, [] => some ⟨[], .fn f (cap.toList.map (aeval s)), []⟩
  | _, _ => none

def evBin (P : Program) (op : BinOp) (t : TypeId) (u v : AV) : Option Step :=
  match u, v with
  | .lit u, .lit v => match litBin P op t u v with
    | some r => some ⟨[], .lit r, []⟩
    | none => match evNilEq P op t (.lit u) (.lit v) with
      | some b => some ⟨[], .lit (.bool b), []⟩
      | none => none
  | .agg xs, .agg ys => match evEqA P op t (.agg xs) (.agg ys) with
    | some b => some ⟨[], .lit (.bool b), []⟩
    | none => none
  | u, v => match evNilEq P op t u v with
    | some b => some ⟨[], .lit (.bool b), []⟩
    | none => none

def evUn (op : UnOp) (u : AV) : Option Step :=
  match u with
  | .lit u => match litUn op u with
    | some r => some ⟨[], .lit r, []⟩
    | none => none
  | _ => none

def evConvert (P : Program) (src dst : TypeId) (id : Nat) (u : AV) : Option Step :=
  match u with
  | .lit (.int _ n) => match intTy P src, intTy P dst with
    | some _, some k' => some ⟨[], .lit (.int k' (k'.wrap n)), []⟩
    | _, _ => none
  | .lit (.string b) => if strTy P src && strTy P dst then some ⟨[], .lit (.string b), []⟩ else match sliceTy P dst with
    | some e => if strTy P src = true ∧ byteTy P e = true ∧ sizeIs P e 1 = true ∧ b.size ≤ 9223372036854775807 then some ⟨[], .slice (some id) (b.data.toList.map byteAV), [(id, .row e 1 b.size)]⟩ else none
    | none => none
  | .nils => match sliceTy P src with
    | some e => if byteTy P e && strTy P dst then some ⟨[], .lit (strV []), []⟩ else none
    | none => none
  | .slice _ xs => match sliceTy P src, bytesOf xs with
    | some e, some bs => if byteTy P e && strTy P dst then some ⟨[], .lit (strV bs), []⟩ else none
    | _, _ => none
  | _ => none

def evIndex (P : Program) (t : TypeId) (u v : AV) : Option Step :=
  match u, v with
  | .lit (.string b), .lit (.int _ n) => if strTy P t = true ∧ 0 ≤ n then match b.data.toList[n.toNat]? with
    | some c => some ⟨[], .lit (.int .u8 c.toNat), []⟩
    | none => none
    else none
  | _, _ => none

def evMrow (σ : Nat → Ent) (i ver : Nat) : Option (TypeId × Nat × List AV) :=
  match σ i with
  | .mrow v e size xs => if v = ver then some (e, size, xs) else none
  | _ => none

def evFieldAddr (P : Program) (σ : Nat → Ent) (t : TypeId) (u : AV) (f : Nat) : Option Step :=
  match u, fieldOff P t f with
  | .ptr i p q, some k => some ⟨[], .ptr i (p ++ [f]) (q + k), []⟩
  | .mp i ver p q, some k => match evMrow σ i ver with
    | some (e, size, xs) => some ⟨[(i, .mrow ver e size xs)], .mp i ver (p ++ [f]) (q + k), []⟩
    | none => none
  | .view (.agg xs), some k => match xs[f]? with
    | some y => if AV.szl (xs.take f) = k then some ⟨[], .view y, []⟩ else none
    | none => none
  | _, _ => none

def evLoad (P : Program) (σ : Nat → Ent) (t : TypeId) (u : AV) : Option Step :=
  match u with
  | .ptr i p q => match evBox σ i with
    | some (_, c, _) => match c.get p with
      | some y => if c.offs p = q ∧ tyInfo P t = some (y.isAgg, y.sz) then some ⟨[(i, σ i)], y, []⟩ else none
      | none => none
    | none => none
  | .view y => if tyInfo P t = some (y.isAgg, y.sz) then some ⟨[], y, []⟩ else none
  | .mp i ver p q => match evMrow σ i ver with
    | some (e, size, xs) => match (AV.agg xs).get p with
      | some y => if (AV.agg xs).offs p = q ∧ tyInfo P t = some (y.isAgg, y.sz) then some ⟨[(i, .mrow ver e size xs)], y, []⟩ else none
      | none => none
    | none => none
  | _ => none

def evStore (P : Program) (σ : Nat → Ent) (t : TypeId) (u z : AV) : Option Step :=
  match u with
  | .ptr i p q => match evBox σ i with
    | some (bt, c, true) => match c.get p, tyInfo P t with
      | some old, some (_, n) => if c.offs p = q ∧ old.sz = z.sz ∧ n = z.sz ∧ z.cell = true then some ⟨[(i, .box bt c)], .tup [], [(i, .box bt (c.put p z))]⟩ else none
      | _, _ => none
    | _ => none
  | .mp i ver (j :: p) q => match evMrow σ i ver with
    | some (e, size, xs) => match (AV.agg xs).get (j :: p), tyInfo P t, (AV.agg xs).put (j :: p) z with
      | some old, some (_, n), .agg xs' => if (AV.agg xs).offs (j :: p) = q ∧ old.sz = z.sz ∧ n = z.sz ∧ z.cell = true then some ⟨[(i, .mrow ver e size xs)], .tup [], [(i, .mrow ver e size xs')]⟩ else none
      | _, _, _ => none
    | none => none
  | _ => none

def evAlloc (P : Program) (t : TypeId) (id : Nat) : Option Step :=
  match ztree P t with
  | some z => some ⟨[], .ptr id [] 0, [(id, .box t z)]⟩
  | none => none

def evIndexAddr (P : Program) (σ : Nat → Ent) (t : TypeId) (u v : AV) : Option Step :=
  match u, v with
  | .clip xs, .lit (.int _ n) => if 0 ≤ n then match xs[n.toNat]?, sliceInfo P t with
    | some y, some (_, size, _, _) => if y.sz = size then some ⟨[], .view y, []⟩ else none
    | _, _ => none
    else none
  | .ms r ver size lo len, .lit (.int _ n) => match evMrow σ r ver, sliceInfo P t with
    | some (e, size', xs), some (e', size'', _, _) => if 0 ≤ n ∧ n.toNat < len ∧ size' = size ∧ size'' = size ∧ e' = e then some ⟨[(r, .mrow ver e size xs)], .mp r ver [lo + n.toNat] ((lo + n.toNat) * size), []⟩ else none
    | _, _ => none
  | .bs r p lo q len, .lit (.int _ n) => match sliceInfo P t with
    | some (_, size, _, _) => if 0 ≤ n ∧ n.toNat < len then some ⟨[], .ptr r (p ++ [lo + n.toNat]) (q + n.toNat * size), []⟩ else none
    | none => none
  | .mp j ver p q, .lit (.int _ n) => match evMrow σ j ver, arrInfo P t with
    | some (e, size', xs), some (len, _, size) => if 0 ≤ n ∧ n.toNat < len then some ⟨[(j, .mrow ver e size' xs)], .mp j ver (p ++ [n.toNat]) (q + n.toNat * size), []⟩ else none
    | _, _ => none
  | .slice _ xs, .lit (.int _ n) => if 0 ≤ n then match xs[n.toNat]?, sliceInfo P t with
    | some y, some (_, size, _, _) => if y.sz = size then some ⟨[], .view y, []⟩ else none
    | _, _ => none
    else none
  | .ptr j p q, .lit (.int _ n) => match arrInfo P t with
    | some (len, _, size) => if 0 ≤ n ∧ n.toNat < len then some ⟨[], .ptr j (p ++ [n.toNat]) (q + n.toNat * size), []⟩ else none
    | none => none
  | .view (.agg xs), .lit (.int _ n) => match arrInfo P t, xs[n.toNat]? with
    | some (len, _, size), some y => if 0 ≤ n ∧ n.toNat < len ∧ AV.szl (xs.take n.toNat) = n.toNat * size then some ⟨[], .view y, []⟩ else none
    | _, _ => none
  | _, _ => none

def evBuild (P : Program) (t : TypeId) (parts : List (Nat × AV)) : Option Step :=
  match ztree P t, splaces P t, arrInfo P t with
  | some (.agg zs), some pl, _ => match fillA (fun (i : Nat) => pl[i]?) zs parts with
    | some ys => some ⟨[], .agg ys, []⟩
    | none => none
  | some (.agg zs), none, some (_, _, size) => match fillA (fun i => some (i * size, size)) zs parts with
    | some ys => some ⟨[], .agg ys, []⟩
    | none => none
  | _, _, _ => none

def evBuildSlice (P : Program) (t : TypeId) (len id : Nat) (parts : List (Nat × AV)) : Option Step :=
  match sliceInfo P t with
  | some (e, size, _, z) => match fillA (fun i => some (i * size, size)) (List.replicate len z) parts with
    | some ys => if len * size ≤ 16777216 ∧ ys.length = len ∧ ys.all (fun x => x.sz == size) = true then some ⟨[], .slice (some id) ys, [(id, .row e size len)]⟩ else none
    | none => none
  | none => none

def evSliceBox (P : Program) (s : Slots) (σ : Nat → Ent) (t : TypeId) (i : Nat) (p : List Nat) (q : Nat) (lo hi : Option Operand) : Option Step :=
  match evBox σ i, ptrArr P t with
  | some (bt, c, b), some (n, _, size) => match c.get p, bnd s 0 lo, bnd s n hi with
    | some (.agg ys), some l, some h => if c.offs p = q ∧ ys.length = n ∧ ys.all (fun y => y.sz == size) = true ∧ l ≤ h ∧ h ≤ n ∧ n ≤ 9223372036854775807 then
        some ⟨[(i, if !b then .fbox bt c else .box bt c)], .slice none ((ys.take h).drop l), if !b then [] else [(i, .fbox bt c)]⟩ else none
    | _, _, _ => none
  | _, _ => none

def evSlice (P : Program) (s : Slots) (σ : Nat → Ent) (t : TypeId) (u : AV) (lo hi mx : Option Operand) : Option Step :=
  match mx, u with
  | none, .slice _ xs => match sliceInfo P t, bnd s 0 lo, bnd s xs.length hi with
    | some (_, size, _, _), some l, some h => if l ≤ h ∧ h ≤ xs.length ∧ xs.all (fun y => y.sz == size) = true then some ⟨[], .slice none ((xs.take h).drop l), []⟩ else none
    | _, _, _ => none
  | none, .clip xs => match sliceInfo P t, bnd s 0 lo, bnd s xs.length hi with
    | some (_, size, _, _), some l, some h => if l ≤ h ∧ h ≤ xs.length ∧ xs.all (fun y => y.sz == size) = true then some ⟨[], .slice none ((xs.take h).drop l), []⟩ else none
    | _, _, _ => none
  | none, .ms r ver size l0 len => match evMrow σ r ver, sliceInfo P t, bnd s 0 lo, bnd s len hi with
    | some (e, size', xs), some (e', size'', _, _), some l, some h => if l ≤ h ∧ h ≤ len ∧ size' = size ∧ size'' = size ∧ e' = e then some ⟨[(r, .mrow ver e size xs)], .ms r ver size (l0 + l) (h - l), []⟩ else none
    | _, _, _, _ => none
  | none, .nils => match sliceInfo P t, bnd s 0 lo, bnd s 0 hi with
    | some _, some 0, some 0 => some ⟨[], .nils, []⟩
    | _, _, _ => none
  | none, .lit (.string b) => match bnd s 0 lo, bnd s b.size hi with
    | some l, some h => if strTy P t = true ∧ l ≤ h ∧ h ≤ b.size then some ⟨[], .lit (.string (b.extract l h)), []⟩ else none
    | _, _ => none
  | none, .ptr i p q => evSliceBox P s σ t i p q lo hi
  | none, .view (.agg ys) => match ptrArr P t with
    | some (n, _, size) => match bnd s 0 lo, bnd s n hi with
      | some l, some h => if ys.length = n ∧ ys.all (fun y => y.sz == size) = true ∧ l ≤ h ∧ h ≤ n ∧ n ≤ 9223372036854775807 then some ⟨[], .slice none ((ys.take h).drop l), []⟩ else none
      | _, _ => none
    | none => none
  | some m, .slice _ xs => match sliceInfo P t, bnd s 0 lo, bnd s 0 hi, bnd s 0 (some m) with
    | some (_, size, _, _), some l, some h, some h' => if hi.isSome = true ∧ h' = h ∧ l ≤ h ∧ h ≤ xs.length ∧ xs.all (fun y => y.sz == size) = true then some ⟨[], .clip ((xs.take h).drop l), []⟩ else none
    | _, _, _, _ => none
  | some m, .clip xs => match sliceInfo P t, bnd s 0 lo, bnd s 0 hi, bnd s 0 (some m) with
    | some (_, size, _, _), some l, some h, some h' => if hi.isSome = true ∧ h' = h ∧ l ≤ h ∧ h ≤ xs.length ∧ xs.all (fun y => y.sz == size) = true then some ⟨[], .clip ((xs.take h).drop l), []⟩ else none
    | _, _, _, _ => none
  | some m, .nils => match sliceInfo P t, bnd s 0 lo, bnd s 0 hi, bnd s 0 (some m) with
    | some _, some 0, some 0, some 0 => if hi.isSome = true then some ⟨[], .clip [], []⟩ else none
    | _, _, _, _ => none
  | _, _ => none

def evMakeSlice (P : Program) (t : TypeId) (id : Nat) (u v : AV) : Option Step :=
  match sliceInfo P t, u, v with
  | some (e, size, bytes, z), .lit (.int _ n), .lit (.int _ c) => if 0 ≤ n ∧ n ≤ c ∧ c ≤ 140737488355328 ∧ bytes * c ≤ 140737488355328 then some ⟨[], .slice (some id) (List.replicate n.toNat z), [(id, .row e size n.toNat)]⟩ else none
  | _, _, _ => none

def evLen (P : Program) (t : TypeId) (u : AV) : Option Step :=
  match u with
  | .slice _ xs => if (sliceInfo P t).isSome then some ⟨[], .lit (.int .i64 xs.length), []⟩ else none
  | .nils => if (sliceInfo P t).isSome then some ⟨[], .lit (.int .i64 0), []⟩ else none
  | .clip xs => if (sliceInfo P t).isSome then some ⟨[], .lit (.int .i64 xs.length), []⟩ else none
  | .ms _ _ _ _ len => if (sliceInfo P t).isSome then some ⟨[], .lit (.int .i64 len), []⟩ else none
  | .bs _ _ _ _ len => if (sliceInfo P t).isSome then some ⟨[], .lit (.int .i64 len), []⟩ else none
  | .lit (.string b) => if strTy P t then some ⟨[], .lit (.int .i64 b.size), []⟩ else none
  | _ => none

def evMin (u v : AV) : Option Step :=
  match u, v with
  | .lit (.int k m), .lit (.int _ n) => some ⟨[], .lit (.int k (if n < m then n else m)), []⟩
  | _, _ => none

def evMax (u v : AV) : Option Step :=
  match u, v with
  | .lit (.int k m), .lit (.int _ n) => some ⟨[], .lit (.int k (if n > m then n else m)), []⟩
  | _, _ => none

def evAppend (P : Program) (σ : Nat → Ent) (id : Nat) (t : TypeId) (u v : AV) : Option Step :=
  match sliceInfo P t, u, v.elems with
  | some (e, size, bytes, _), .slice (some r) xs, some ys => match σ r with
    | .row e' size' n => if e' = e ∧ size' = size ∧ n = xs.length ∧ xs.all (fun x => x.sz == size) = true ∧ ys.all (fun x => x.sz == size && x.cell) = true ∧ (xs.length + ys.length) * bytes ≤ 140737488355328 ∧ xs.length + ys.length ≤ 140737488355328 then
      some ⟨[(r, .row e size xs.length)], .slice (some r) (xs ++ ys), [(r, .row e size (xs.length + ys.length))]⟩ else none
    | _ => none
  | some (e, size, bytes, _), .nils, some ys => if ys.all (fun x => x.sz == size && x.cell) = true ∧ ys.length * bytes ≤ 140737488355328 ∧ ys.length ≤ 140737488355328 then
      some ⟨[], .slice (some id) ys, [(id, .row e size ys.length)]⟩ else none
  | some (e, size, bytes, _), .clip xs, some ys => if xs.all (fun x => x.sz == size) = true ∧ ys.all (fun x => x.sz == size && x.cell) = true ∧ (xs.length + ys.length) * bytes ≤ 140737488355328 ∧ xs.length + ys.length ≤ 140737488355328 then
      some ⟨[], .slice (some id) (xs ++ ys), [(id, .row e size (xs.length + ys.length))]⟩ else none
  | some (e, size, bytes, _), .ms r ver size' lo k, some ys => match evMrow σ r ver with
    | some (e', size'', xs) => if e' = e ∧ size' = size ∧ size'' = size ∧ lo = 0 ∧ k ≤ xs.length ∧ ys.all (fun x => x.sz == size && x.cell) = true ∧ (k + ys.length) * bytes ≤ 140737488355328 ∧ k + ys.length ≤ 140737488355328 then
      some ⟨[(r, .mrow ver e size xs)], .ms r (ver + 1) size 0 (k + ys.length), [(r, .mrow (ver + 1) e size (xs.take k ++ ys))]⟩ else none
    | none => none
  | _, _, _ => none

def evAppendZ (P : Program) (σ : Nat → Ent) (t tn : TypeId) (u v : AV) : Option Step :=
  match sliceInfo P t, intTy P tn, u, v with
  | some (e, size, bytes, z), some _, .slice (some r) xs, .lit (.int _ m) => match σ r with
    | .row e' size' n => if e' = e ∧ size' = size ∧ n = xs.length ∧ 0 ≤ m ∧ z.cell = true ∧ xs.all (fun x => x.sz == size) = true ∧ (xs.length + m.toNat) * bytes ≤ 140737488355328 ∧ xs.length + m.toNat ≤ 140737488355328 then
      some ⟨[(r, .row e size xs.length)], .slice (some r) (xs ++ List.replicate m.toNat z), [(r, .row e size (xs.length + m.toNat))]⟩ else none
    | _ => none
  | _, _, _, _ => none

def evCopy (P : Program) (σ : Nat → Ent) (t : TypeId) (u v : AV) : Option Step :=
  match sliceInfo P t, u, copySrc v with
  | some (e, size, _, _), .ms r ver size' lo len, some ys => match evMrow σ r ver with
    | some (e', size'', xs) => if e' = e ∧ size' = size ∧ size'' = size ∧ lo + len ≤ xs.length ∧ ys.all (fun x => x.sz == size && x.cell) = true then
      some ⟨[(r, .mrow ver e size xs)], .lit (.int .i64 (Nat.min ys.length len : Nat)), [(r, .mrow ver e size (xs.take lo ++ ys.take (Nat.min ys.length len) ++ xs.drop (lo + Nat.min ys.length len)))]⟩ else none
    | none => none
  | some (_, size, _, _), .bs r p lo q len, some ys => match evBox σ r with
    | some (bt, c, true) => match c.get p with
      | some (.agg xs) => if c.offs p + lo * size = q ∧ xs.all (fun x => x.sz == size) = true ∧ lo + len ≤ xs.length ∧ ys.all (fun x => x.sz == size && x.cell) = true then
        some ⟨[(r, .box bt c)], .lit (.int .i64 (Nat.min ys.length len : Nat)), [(r, .box bt (c.put p (.agg (xs.take lo ++ ys.take (Nat.min ys.length len) ++ xs.drop (lo + Nat.min ys.length len)))))]⟩ else none
      | _ => none
    | _ => none
  | _, _, _ => none

def evClear (P : Program) (σ : Nat → Ent) (t : TypeId) (u : AV) : Option Step :=
  match sliceInfo P t, u with
  | some (e, size, _, z), .ms r ver size' lo len => match evMrow σ r ver with
    | some (e', size'', xs) => if e' = e ∧ size' = size ∧ size'' = size ∧ lo + len ≤ xs.length ∧ z.cell = true then
      some ⟨[(r, .mrow ver e size xs)], .tup [], [(r, .mrow ver e size (xs.take lo ++ (List.replicate len z).take len ++ xs.drop (lo + len)))]⟩ else none
    | none => none
  | _, _ => none

def evBuiltin (P : Program) (s : Slots) (σ : Nat → Ent) (id : Nat) (b : Builtin) (args : List Operand) (ts : List TypeId) : Option Step :=
  match b, args, ts with
  | .len, [x], [t] => evLen P t (aeval s x)
  | .min, [x, y], _ => evMin (aeval s x) (aeval s y)
  | .max, [x, y], _ => evMax (aeval s x) (aeval s y)
  | .append, [x, y], [t, t'] => if t = t' then evAppend P σ id t (aeval s x) (aeval s y) else evAppendZ P σ t t' (aeval s x) (aeval s y)
  | .copy, [x, y], [t, _] => evCopy P σ t (aeval s x) (aeval s y)
  | .clear, [x], [t] => evClear P σ t (aeval s x)
  | _, _, _ => none

def evCall (P : Program) (s : Slots) (σ : Nat → Ent) (id : Nat) (c : Call) : Option Step :=
  match c.callee with
  | .builtin b => evBuiltin P s σ id b c.args.toList c.argTypes.toList
  | _ => none

def evalOp (P : Program) (op : Op) (s : Slots) (σ : Nat → Ent) (id : Nat) : Option Step :=
  match op with
  | .move x => some ⟨[], aeval s x, []⟩
  | .assign x => some ⟨[], aeval s x, []⟩
  | .pick c x y => evPick s c x y
  | .extract x i => evExtract s x i
  | .nilCheck x => evNilCheck s x
  | .makeFunc fn first cap => evMakeFunc s fn first.toList cap
  | .binOp op t x y _ => evBin P op t (aeval s x) (aeval s y)
  | .unOp op _ x => evUn op (aeval s x)
  | .convert src dst x => evConvert P src dst id (aeval s x)
  | .index t x i => evIndex P t (aeval s x) (aeval s i)
  | .fieldAddr t x f => evFieldAddr P σ t (aeval s x) f
  | .load t x => evLoad P σ t (aeval s x)
  | .store t x y => evStore P σ t (aeval s x) (aeval s y)
  | .box t x => some ⟨[], .ptr id [] 0, [(id, .box t (aeval s x))]⟩
  | .alloc t => evAlloc P t id
  | .indexAddr t x i => evIndexAddr P σ t (aeval s x) (aeval s i)
  | .build t parts => evBuild P t (parts.toList.map fun p => (p.1, aeval s p.2))
  | .buildSlice t len parts => evBuildSlice P t len id (parts.toList.map fun p => (p.1, aeval s p.2))
  | .slice t x lo hi mx => evSlice P s σ t (aeval s x) lo hi mx
  | .makeInterface t x => if P.concrete t then some ⟨[], .iface t (aeval s x), []⟩ else none
  | .typeAssert x _ t true => (assertT P t (aeval s x)).map fun v => ⟨[], v, []⟩
  | .makeSlice t x y => evMakeSlice P t id (aeval s x) (aeval s y)
  | .call c => evCall P s σ id c
  | _ => none

theorem evBox_sound {σ : Nat → Ent} {i : Nat} {t : TypeId} {c : AV} {b : Bool} (h : evBox σ i = some (t, c, b)) : (b = true ∧ σ i = .box t c) ∨ (b = false ∧ σ i = .fbox t c) := by
  unfold evBox at h
  split at h
  · rename_i h'; cases h; exact .inl ⟨rfl, h'⟩
  · rename_i h'; cases h; exact .inr ⟨rfl, h'⟩
  · cases h

theorem evMrow_sound {σ : Nat → Ent} {i ver : Nat} {e : TypeId} {size : Nat} {xs : List AV} (h : evMrow σ i ver = some (e, size, xs)) : σ i = .mrow ver e size xs := by
  unfold evMrow at h
  split at h
  · rename_i h'
    split at h
    · rename_i hv; subst hv; cases h; exact h'
    · cases h
  · cases h

def Gives (P : Program) (o : Oper) (s : Slots) (σ : Nat → Ent) (id : Nat) (st : Step) : Prop := OpHolds P o s id st.pre st.v st.post ∧ ∀ p ∈ st.pre, σ p.1 = p.2

theorem Gives.mk0 {P : Program} {o : Oper} {s : Slots} {σ : Nat → Ent} {id : Nat} {v : AV} {post : Foot} (h : OpHolds P o s id [] v post) : Gives P o s σ id ⟨[], v, post⟩ := ⟨h, fun p hp => (by cases hp)⟩

theorem toList_one {α : Type} {a : Array α} {x : α} (h : a.toList = [x]) : a = #[x] := by cases a; simp at h; simp [h]
theorem toList_two {α : Type} {a : Array α} {x y : α} (h : a.toList = [x, y]) : a = #[x, y] := by cases a; simp at h; simp [h]
theorem toList_nil {α : Type} {a : Array α} (h : a.toList = []) : a = #[] := by cases a; simp at h; simp [h]

section
variable {P : Program} {o : Oper} {s : Slots} {σ : Nat → Ent} {id : Nat} {st : Step}

theorem evAppend_sound {t : TypeId} {x y : Operand} (ho : o.op = .call { callee := .builtin .append, args := #[x, y], argTypes := #[t, t] }) (h : evAppend P σ id t (aeval s x) (aeval s y) = some st) : Gives P o s σ id st := by
  unfold evAppend at h
  split at h
  · rename_i ht hx hy
    split at h
    · rename_i hr
      split at h
      · rename_i hc
        cases h
        obtain ⟨k1, k2, k3, k4, k5, k6⟩ := sliceInfo_sound ht
        obtain ⟨c1, c2, c3, c4, c5, c6, c7⟩ := hc
        subst c1; subst c2; subst c3
        exact ⟨holds_append_own ho k1 k2 k3 k4 k5 hx rfl hy c4 c5 c6 (by unfold maxLen; omega), fun p hp => by simp at hp; subst hp; exact hr⟩
      · cases h
    · cases h
  · rename_i ht hx hy
    split at h
    · rename_i hc
      cases h
      obtain ⟨k1, k2, k3, k4, k5, k6⟩ := sliceInfo_sound ht
      exact .mk0 (holds_append_nils ho k1 k2 k3 k4 k5 hx rfl hy hc.1 hc.2.1 (by unfold maxLen; omega))
    · cases h
  · rename_i ht hx hy
    split at h
    · rename_i hc
      cases h
      obtain ⟨k1, k2, k3, k4, k5, k6⟩ := sliceInfo_sound ht
      exact .mk0 (holds_append_clip ho k1 k2 k3 k4 k5 hx rfl hy hc.1 hc.2.1 hc.2.2.1 (by unfold maxLen; omega))
    · cases h
  · rename_i ht hx hy
    split at h
    · rename_i hm
      split at h
      · rename_i hc
        cases h
        obtain ⟨k1, k2, k3, k4, k5, k6⟩ := sliceInfo_sound ht
        obtain ⟨c1, c2, c3, c4, c5, c6, c7, c8⟩ := hc
        subst c1; subst c2; subst c3; subst c4
        exact ⟨holds_append_ms ho k1 k2 k3 k4 k5 hx c5 rfl hy c6 c7 (by unfold maxLen; omega), fun p hp => by simp at hp; subst hp; exact evMrow_sound hm⟩
      · cases h
    · cases h
  · cases h

theorem evAppendZ_sound {t tn : TypeId} {x y : Operand} (ho : o.op = .call { callee := .builtin .append, args := #[x, y], argTypes := #[t, tn] }) (h : evAppendZ P σ t tn (aeval s x) (aeval s y) = some st) : Gives P o s σ id st := by
  unfold evAppendZ at h
  split at h
  · rename_i ht htn hx hy
    split at h
    · rename_i hr
      split at h
      · rename_i hc
        cases h
        obtain ⟨k1, k2, k3, k4, k5, k6⟩ := sliceInfo_sound ht
        obtain ⟨c1, c2, c3, c4, c5, c6, c7, c8⟩ := hc
        subst c1; subst c2; subst c3
        exact ⟨holds_append_zeros ho k1 htn k2 k3 k4 k5 c5 k6 hx hy c4 c6 c7 c8, fun p hp => by simp at hp; subst hp; exact hr⟩
      · cases h
    · cases h
  · cases h

theorem evCopy_sound {t ts : TypeId} {x y : Operand} (ho : o.op = .call { callee := .builtin .copy, args := #[x, y], argTypes := #[t, ts] }) (h : evCopy P σ t (aeval s x) (aeval s y) = some st) : Gives P o s σ id st := by
  unfold evCopy at h
  split at h
  · rename_i ht hx hy
    split at h
    · rename_i hm
      split at h
      · rename_i hc
        cases h
        obtain ⟨k1, k2, k3, k4, k5, k6⟩ := sliceInfo_sound ht
        obtain ⟨c1, c2, c3, c4, c5⟩ := hc
        subst c1; subst c2; subst c3
        exact ⟨holds_copy_ms ho k1 k2 hx c4 rfl hy c5 rfl, fun p hp => by simp at hp; subst hp; exact evMrow_sound hm⟩
      · cases h
    · cases h
  · rename_i ht hx hy
    split at h
    · rename_i hb
      split at h
      · rename_i hg
        split at h
        · rename_i hc
          cases h
          obtain ⟨k1, k2, k3, k4, k5, k6⟩ := sliceInfo_sound ht
          rcases evBox_sound hb with ⟨_, he⟩ | ⟨hf, _⟩
          · exact ⟨holds_copy_bs ho k1 k2 hx hg hc.1 hc.2.1 hc.2.2.1 rfl hy hc.2.2.2 rfl, fun p hp => by simp at hp; subst hp; exact he⟩
          · cases hf
        · cases h
      · cases h
    · cases h
  · cases h

theorem evClear_sound {t : TypeId} {x : Operand} (ho : o.op = .call { callee := .builtin .clear, args := #[x], argTypes := #[t] }) (h : evClear P σ t (aeval s x) = some st) : Gives P o s σ id st := by
  unfold evClear at h
  split at h
  · rename_i ht hx
    split at h
    · rename_i hm
      split at h
      · rename_i hc
        cases h
        obtain ⟨k1, k2, k3, k4, k5, k6⟩ := sliceInfo_sound ht
        obtain ⟨c1, c2, c3, c4, c5⟩ := hc
        subst c1; subst c2; subst c3
        exact ⟨holds_clear_ms ho k1 k2 k4 k5 c5 k6 hx c4, fun p hp => by simp at hp; subst hp; exact evMrow_sound hm⟩
      · cases h
    · cases h
  · cases h

theorem evBuiltin_sound {b : Builtin} {args : Array Operand} {ts : Array TypeId} (ho : o.op = .call { callee := .builtin b, args := args, argTypes := ts }) (h : evBuiltin P s σ id b args.toList ts.toList = some st) : Gives P o s σ id st := by
  unfold evBuiltin at h
  split at h
  · rename_i x t ha ht
    rw [toList_one ha, toList_one ht] at ho
    unfold evLen at h
    split at h
    · rename_i hx
      split at h
      · rename_i hc
        cases h
        obtain ⟨⟨e, size, bytes, z⟩, ht⟩ := Option.isSome_iff_exists.1 hc
        exact .mk0 (holds_len_slice ho (sliceInfo_sound ht).1 (by rw [hx]; exact AV.le_refl _))
      · cases h
    · rename_i hx
      split at h
      · rename_i hc
        cases h
        obtain ⟨⟨e, size, bytes, z⟩, ht⟩ := Option.isSome_iff_exists.1 hc
        exact .mk0 (holds_len_nils ho (sliceInfo_sound ht).1 hx)
      · cases h
    · rename_i hx
      split at h
      · rename_i hc
        cases h
        obtain ⟨⟨e, size, bytes, z⟩, ht⟩ := Option.isSome_iff_exists.1 hc
        exact .mk0 (holds_len_slice ho (sliceInfo_sound ht).1 (by rw [hx]; exact AV.le_clip _))
      · cases h
    · rename_i hx
      split at h
      · rename_i hc
        cases h
        obtain ⟨⟨e, size, bytes, z⟩, ht⟩ := Option.isSome_iff_exists.1 hc
        exact .mk0 (holds_len_ms ho (sliceInfo_sound ht).1 hx)
      · cases h
    · rename_i hx
      split at h
      · rename_i hc
        cases h
        obtain ⟨⟨e, size, bytes, z⟩, ht⟩ := Option.isSome_iff_exists.1 hc
        exact .mk0 (holds_len_bs ho (sliceInfo_sound ht).1 hx)
      · cases h
    · rename_i hx
      split at h
      · rename_i hc; cases h; exact .mk0 (holds_len_str ho hc hx)
      · cases h
    · cases h
  · rename_i x y ha
    rw [toList_two ha] at ho
    unfold evMin at h
    split at h
    · rename_i hx hy; cases h; exact .mk0 (holds_min ho hx hy)
    · cases h
  · rename_i x y ha
    rw [toList_two ha] at ho
    unfold evMax at h
    split at h
    · rename_i hx hy; cases h; exact .mk0 (holds_max ho hx hy)
    · cases h
  · rename_i x y t t' ha ht
    rw [toList_two ha, toList_two ht] at ho
    split at h
    · rename_i htt
      subst htt
      exact evAppend_sound ho h
    · exact evAppendZ_sound ho h
  · rename_i x y t t' ha ht
    rw [toList_two ha, toList_two ht] at ho
    exact evCopy_sound ho h
  · rename_i x t ha ht
    rw [toList_one ha, toList_one ht] at ho
    exact evClear_sound ho h
  · cases h

theorem evConvert_sound {src dst : TypeId} {x : Operand} (ho : o.op = .convert src dst x) (h : evConvert P src dst id (aeval s x) = some st) : Gives P o s σ id st := by
  unfold evConvert at h
  split at h
  · rename_i hx
    split at h
    · rename_i h1 h2; cases h; exact .mk0 (holds_convert_int ho h1 h2 hx)
    · cases h
  · rename_i hx
    split at h
    · rename_i hc; cases h; simp only [Bool.and_eq_true] at hc; exact .mk0 (holds_convert_str ho hc.1 hc.2 hx)
    · split at h
      · rename_i hd
        split at h
        · rename_i hc
          cases h
          exact .mk0 ((holds_convert_str_bytes ho hc.1 hd hc.2.1 hc.2.2.1 hx (by unfold maxLen; omega)).freezeNew (by simp))
        · cases h
      · cases h
  · rename_i hx
    split at h
    · rename_i h1
      split at h
      · rename_i hc
        cases h
        simp only [Bool.and_eq_true] at hc
        exact .mk0 (holds_convert_bytes_le (bs := []) ho h1 hc.1 hc.2 (by rw [hx]; exact AV.le_nils0))
      · cases h
    · cases h
  · rename_i hx
    split at h
    · rename_i h1 h2
      split at h
      · rename_i hc; cases h; simp only [Bool.and_eq_true] at hc; rw [bytesOf_sound h2] at hx; exact .mk0 (holds_convert_bytes ho h1 hc.1 hc.2 hx)
      · cases h
    · cases h
  · cases h

theorem evLoad_sound {t : TypeId} {x : Operand} (ho : o.op = .load t x) (h : evLoad P σ t (aeval s x) = some st) : Gives P o s σ id st := by
  unfold evLoad at h
  split at h
  · rename_i hx
    split at h
    · rename_i hb
      split at h
      · rename_i hy
        split at h
        · rename_i hc
          cases h
          obtain ⟨h1, _⟩ := tyInfo_sound hc.2
          refine ⟨?_, fun p hp => by simp at hp; subst hp; rfl⟩
          rcases evBox_sound hb with ⟨_, he⟩ | ⟨_, he⟩
          · exact holds_load ho hx (.inl he) hy hc.1 h1
          · exact holds_load ho hx (.inr he) hy hc.1 h1
        · cases h
      · cases h
    · cases h
  · rename_i hx
    split at h
    · rename_i hc; cases h; exact .mk0 (holds_load_view ho hx (tyInfo_sound hc).1)
    · cases h
  · rename_i hx
    split at h
    · rename_i hm
      split at h
      · rename_i hy
        split at h
        · rename_i hc
          cases h
          exact ⟨holds_load_mp ho hx hy hc.1 (tyInfo_sound hc.2).1, fun p hp => by simp at hp; subst hp; exact evMrow_sound hm⟩
        · cases h
      · cases h
    · cases h
  · cases h

theorem evStore_sound {t : TypeId} {x y : Operand} (ho : o.op = .store t x y) (h : evStore P σ t (aeval s x) (aeval s y) = some st) : Gives P o s σ id st := by
  unfold evStore at h
  split at h
  · rename_i hx
    split at h
    · rename_i hb
      split at h
      · rename_i hy ht
        split at h
        · rename_i hc
          cases h
          rcases evBox_sound hb with ⟨_, he⟩ | ⟨hf, _⟩
          · exact ⟨holds_store ho hx rfl hy hc.1 hc.2.1 (by rw [← hc.2.2.1]; exact (tyInfo_sound ht).2) hc.2.2.2, fun p hp => by simp at hp; subst hp; exact he⟩
          · cases hf
        · cases h
      · cases h
    · cases h
  · rename_i hx
    split at h
    · rename_i hm
      split at h
      · rename_i hy ht hput
        split at h
        · rename_i hc
          cases h
          exact ⟨holds_store_mp ho hx rfl hy hc.1 hc.2.1 (by rw [← hc.2.2.1]; exact (tyInfo_sound ht).2) hc.2.2.2 hput, fun p hp => by simp at hp; subst hp; exact evMrow_sound hm⟩
        · cases h
      · cases h
    · cases h
  · cases h

theorem evIndexAddr_sound {t : TypeId} {x i : Operand} (ho : o.op = .indexAddr t x i) (h : evIndexAddr P σ t (aeval s x) (aeval s i) = some st) : Gives P o s σ id st := by
  unfold evIndexAddr at h
  split at h
  · rename_i hx hi
    split at h
    · rename_i hn
      split at h
      · rename_i hy ht
        split at h
        · rename_i hs
          cases h
          obtain ⟨k1, k2, _⟩ := sliceInfo_sound ht
          exact .mk0 (holds_indexAddr_slice ho k1 (by rw [hx]; exact AV.le_clip _) hi hn hy (by rw [hs]; exact k2))
        · cases h
      · cases h
    · cases h
  · rename_i hx hi
    split at h
    · rename_i hm ht
      split at h
      · rename_i hc
        cases h
        obtain ⟨k1, k2, _⟩ := sliceInfo_sound ht
        obtain ⟨c1, c2, c3, c4, c5⟩ := hc
        subst c3; subst c4; subst c5
        exact ⟨holds_indexAddr_ms ho k1 k2 hx hi c1 c2, fun p hp => by simp at hp; subst hp; exact evMrow_sound hm⟩
      · cases h
    · cases h
  · rename_i hx hi
    split at h
    · rename_i ht
      split at h
      · rename_i hc
        cases h
        obtain ⟨k1, k2, _⟩ := sliceInfo_sound ht
        exact .mk0 (holds_indexAddr_bs ho k1 k2 hx hi hc.1 hc.2)
      · cases h
    · cases h
  · rename_i hx hi
    split at h
    · rename_i hm ht
      split at h
      · rename_i hc
        cases h
        obtain ⟨k1, k2⟩ := arrInfo_sound ht
        exact ⟨holds_indexAddr_mp ho k1 k2 hx hi hc.1 hc.2, fun p hp => by simp at hp; subst hp; exact evMrow_sound hm⟩
      · cases h
    · cases h
  · rename_i hx hi
    split at h
    · rename_i hn
      split at h
      · rename_i hy ht
        split at h
        · rename_i hs
          cases h
          obtain ⟨k1, k2, _⟩ := sliceInfo_sound ht
          exact .mk0 (holds_indexAddr_slice ho k1 (by rw [hx]; exact AV.le_refl _) hi hn hy (by rw [hs]; exact k2))
        · cases h
      · cases h
    · cases h
  · rename_i hx hi
    split at h
    · rename_i ht
      split at h
      · rename_i hc
        cases h
        obtain ⟨k1, k2⟩ := arrInfo_sound ht
        exact .mk0 (holds_indexAddr_ptr ho k1 k2 hx hi hc.1 hc.2)
      · cases h
    · cases h
  · rename_i hx hi
    split at h
    · rename_i ht hy
      split at h
      · rename_i hc
        cases h
        obtain ⟨k1, k2⟩ := arrInfo_sound ht
        exact .mk0 (holds_indexAddr_view ho k1 k2 hx hi hc.1 hc.2.1 hy hc.2.2)
      · cases h
    · cases h
  · cases h

theorem evSlice_sound {t : TypeId} {x : Operand} {lo hi mx : Option Operand} (ho : o.op = .slice t x lo hi mx) (h : evSlice P s σ t (aeval s x) lo hi mx = some st) : Gives P o s σ id st := by
  unfold evSlice at h
  split at h
  · rename_i hx
    split at h
    · rename_i ht hl hh
      split at h
      · rename_i hc
        cases h
        obtain ⟨k1, k2, _⟩ := sliceInfo_sound ht
        exact .mk0 (holds_slice_slice ho k1 k2 (by rw [hx]; exact AV.le_refl _) hl hh hc.1 hc.2.1 hc.2.2)
      · cases h
    · cases h
  · rename_i hx
    split at h
    · rename_i ht hl hh
      split at h
      · rename_i hc
        cases h
        obtain ⟨k1, k2, _⟩ := sliceInfo_sound ht
        exact .mk0 (holds_slice_slice ho k1 k2 (by rw [hx]; exact AV.le_clip _) hl hh hc.1 hc.2.1 hc.2.2)
      · cases h
    · cases h
  · rename_i hx
    split at h
    · rename_i hm ht hl hh
      split at h
      · rename_i hc
        cases h
        obtain ⟨k1, k2, _⟩ := sliceInfo_sound ht
        obtain ⟨c1, c2, c3, c4, c5⟩ := hc
        subst c3; subst c4; subst c5
        exact ⟨holds_slice_ms ho k1 k2 hx hl hh c1 c2, fun p hp => by simp at hp; subst hp; exact evMrow_sound hm⟩
      · cases h
    · cases h
  · rename_i hx
    split at h
    · rename_i y ht hl hh
      cases h
      obtain ⟨e, size, bytes, z⟩ := y
      obtain ⟨k1, k2, _⟩ := sliceInfo_sound ht
      exact .mk0 (holds_slice_nils ho k1 k2 hx hl hh)
    · cases h
  · rename_i hx
    split at h
    · rename_i hl hh
      split at h
      · rename_i hc; cases h; exact .mk0 (holds_slice_str ho hc.1 hx hl hh hc.2.1 hc.2.2)
      · cases h
    · cases h
  · rename_i hx
    unfold evSliceBox at h
    split at h
    · rename_i b n e size hb ht
      split at h
      · rename_i hy hl hh
        split at h
        · rename_i hc
          cases h
          obtain ⟨c1, c2, c3, c4, c5, c6⟩ := hc
          refine ⟨holds_slice_fbox (!b) ho ht hx hy c1 c2 c3 hl hh c4 c5 (by unfold maxLen; omega), fun p hp => ?_⟩
          simp at hp
          subst hp
          rcases evBox_sound hb with ⟨rfl, he⟩ | ⟨rfl, he⟩ <;> simpa using he
        · cases h
      · cases h
    · cases h
  · rename_i hx
    split at h
    · rename_i ht
      split at h
      · rename_i hl hh
        split at h
        · rename_i hc
          cases h
          exact .mk0 (holds_slice_view ho ht hx hc.1 hc.2.1 hl hh hc.2.2.1 hc.2.2.2.1 (by unfold maxLen; omega))
        · cases h
      · cases h
    · cases h
  · rename_i hx
    split at h
    · rename_i ht hl hh hm
      split at h
      · rename_i hc
        cases h
        obtain ⟨k1, k2, _⟩ := sliceInfo_sound ht
        obtain ⟨c1, c2, c3, c4, c5⟩ := hc
        subst c2
        exact .mk0 (holds_slice_clip ho k1 k2 (by rw [hx]; exact AV.le_refl _) hl hh hm c1 c3 c4 c5)
      · cases h
    · cases h
  · rename_i hx
    split at h
    · rename_i ht hl hh hm
      split at h
      · rename_i hc
        cases h
        obtain ⟨k1, k2, _⟩ := sliceInfo_sound ht
        obtain ⟨c1, c2, c3, c4, c5⟩ := hc
        subst c2
        exact .mk0 (holds_slice_clip ho k1 k2 (by rw [hx]; exact AV.le_clip _) hl hh hm c1 c3 c4 c5)
      · cases h
    · cases h
  · rename_i hx
    split at h
    · rename_i y ht hl hh hm
      split at h
      · rename_i hc
        cases h
        obtain ⟨e, size, bytes, z⟩ := y
        obtain ⟨k1, k2, _⟩ := sliceInfo_sound ht
        have := holds_slice_clip (id := id) ho k1 k2 (own := none) (xs := []) (by rw [hx]; exact AV.le_nils0) hl hh hm hc (Nat.le_refl _) (Nat.le_refl _) rfl
        exact .mk0 this
      · cases h
    · cases h
  · cases h

theorem evalOp_sound (h : evalOp P o.op s σ id = some st) : Gives P o s σ id st := by
  cases ho : o.op <;> rw [ho] at h <;> simp only [evalOp] at h <;> try (cases h; done)
  case move x => cases h; exact .mk0 (holds_move ho)
  case assign x => cases h; exact .mk0 (holds_assign ho)
  case pick c x y =>
    unfold evPick at h
    split at h
    · rename_i hc; cases h; exact .mk0 (holds_pick ho hc)
    · cases h
  case extract x i =>
    unfold evExtract at h
    split at h
    · rename_i hx
      split at h
      · rename_i hy; cases h; exact .mk0 (holds_extract ho hx hy)
      · cases h
    · cases h
  case nilCheck x =>
    unfold evNilCheck at h
    split at h
    · rename_i hx; cases h; rw [← hx]; exact .mk0 (holds_nilCheck ho (by rw [hx]; trivial))
    · rename_i hx; cases h; rw [← hx]; exact .mk0 (holds_nilCheck ho (by rw [hx]; trivial))
    · rename_i hx; cases h; rw [← hx]; exact .mk0 (holds_nilCheck ho (by rw [hx]; trivial))
    · cases h
  case makeFunc fn first cap =>
    unfold evMakeFunc at h
    split at h
    · rename_i f hf; cases h; rw [toList_nil hf] at ho; exact .mk0 (holds_makeFunc ho)
    · cases h
  case binOp op t x y yt =>
    unfold evBin at h
    split at h
    · rename_i hx hy
      split at h
      · rename_i hr; cases h; exact .mk0 (holds_binOp ho hx hy hr)
      · split at h
        · rename_i hr; cases h; exact .mk0 (holds_nilEq ho hx hy hr)
        · cases h
    · rename_i hx hy
      split at h
      · rename_i hr; cases h; exact .mk0 (holds_eqA ho hx hy hr)
      · cases h
    · split at h
      · rename_i hr; cases h; exact .mk0 (holds_nilEq ho rfl rfl hr)
      · cases h
  case unOp op t x =>
    unfold evUn at h
    split at h
    · rename_i hx
      split at h
      · rename_i hr; cases h; exact .mk0 (holds_unOp ho hx hr)
      · cases h
    · cases h
  case convert src dst x => exact evConvert_sound ho h
  case index t x i =>
    unfold evIndex at h
    split at h
    · rename_i hx hi
      split at h
      · rename_i hc
        split at h
        · rename_i hb; cases h; exact .mk0 (holds_index_str ho hc.1 hx hi hc.2 hb)
        · cases h
      · cases h
    · cases h
  case fieldAddr t x f =>
    unfold evFieldAddr at h
    split at h
    · rename_i hx hk; cases h; exact .mk0 (holds_fieldAddr_ptr ho hx hk)
    · rename_i hx hk
      split at h
      · rename_i hm
        cases h
        exact ⟨holds_fieldAddr_mp ho hx hk, fun p hp => by simp at hp; subst hp; exact evMrow_sound hm⟩
      · cases h
    · rename_i hx hk
      split at h
      · rename_i hy
        split at h
        · rename_i hs; cases h; exact .mk0 (holds_fieldAddr_view ho hx hk hy hs)
        · cases h
      · cases h
    · cases h
  case load t x => exact evLoad_sound ho h
  case store t x y => exact evStore_sound ho h
  case box t x => cases h; exact .mk0 (holds_box ho rfl)
  case alloc t =>
    unfold evAlloc at h
    split at h
    · rename_i hz; cases h; exact .mk0 (holds_alloc ho hz)
    · cases h
  case indexAddr t x i => exact evIndexAddr_sound ho h
  case build t parts =>
    unfold evBuild at h
    split at h
    · rename_i hz hp
      split at h
      · rename_i hf; cases h; exact .mk0 (holds_build_struct ho hz hp hf)
      · cases h
    · rename_i hz hp ht
      split at h
      · rename_i hf
        cases h
        obtain ⟨k1, k2⟩ := arrInfo_sound ht
        exact .mk0 (holds_build_array ho hz k1 k2 hf)
      · cases h
    · cases h
  case buildSlice t len parts =>
    unfold evBuildSlice at h
    split at h
    · rename_i ht
      split at h
      · rename_i hf
        split at h
        · rename_i hc
          cases h
          obtain ⟨k1, k2, k3, k4, k5, k6⟩ := sliceInfo_sound ht
          exact .mk0 (holds_buildSlice ho k1 k2 k4 k6 k5 hc.1 hf hc.2.1 hc.2.2)
        · cases h
      · cases h
    · cases h
  case slice t x lo hi mx => exact evSlice_sound ho h
  case makeInterface t x =>
    split at h
    · rename_i hc; cases h; exact .mk0 (holds_makeInterface ho hc)
    · cases h
  case typeAssert x xt t ok =>
    cases ok with
    | false => cases h
    | true =>
      simp only [Option.map_eq_some_iff] at h
      obtain ⟨v, hv, rfl⟩ := h
      exact .mk0 (holds_typeAssert ho hv)
  case makeSlice t x y =>
    unfold evMakeSlice at h
    split at h
    · rename_i ht hx hy
      split at h
      · rename_i hc
        cases h
        obtain ⟨k1, k2, k3, k4, k5, k6⟩ := sliceInfo_sound ht
        exact .mk0 (holds_makeSlice ho k1 k2 k3 k4 k5 k6 hx hy hc.1 hc.2.1 hc.2.2.1 hc.2.2.2)
      · cases h
    · cases h
  case call c =>
    unfold evCall at h
    obtain ⟨callee, args, ts⟩ := c
    cases callee with
    | builtin b => exact evBuiltin_sound ho h
    | value => cases h
    | invoke => cases h
end
end Go.Ab
