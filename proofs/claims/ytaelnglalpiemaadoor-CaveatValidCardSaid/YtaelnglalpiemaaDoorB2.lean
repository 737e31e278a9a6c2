/- Code: the walk of a body at the level of values (aw), its loops, and that it is sound. -/
import Derived.Test.YtaelnglalpiemaaDoorB1
import Derived.Scope
namespace Go.Ab
open Go.RowKit

abbrev Trace := List (Nat × Foot × Foot)

def addT (i : Nat) (st : Step) (T : Trace) : Trace :=
  match st.pre, st.post with
  | [], [] => T
  | p, q => (i, p, q) :: T

/-- What 'evalOp' does not know: a call, or an operation with a law of its own. -/
def AStepX (P : Program) (o : Oper) (c : Cfg) (id : Nat) (k : Step → Prop) : Prop := ∃ st, Gives P o c.s c.σ id st ∧ k st

def wantedG (ops : Array Oper) (gd : Option (Nat × Bool)) (s : Slots) : Option Bool :=
  match gd with
  | none => some true
  | some (j, want) =>
    match (ops[j]?).bind (·.dst) with
    | none => none
    | some d =>
      match s d with
      | .lit (.bool b) => some (b == want)
      | .tup [] => some false
      | _ => none
theorem wantedG_none (ops : Array Oper) (s : Slots) : wantedG ops none s = some true := rfl

def astep (P : Program) (o : Oper) (c : Cfg) (id : Nat) (k : Step → Prop) : Prop := AStepX P o c id k
theorem astep_sound {P : Program} {o : Oper} {c : Cfg} {id : Nat} {k : Step → Prop} (h : astep P o c id k) : ∃ st, Gives P o c.s c.σ id st ∧ k st := h

def aguard (b : Option Bool) (A B : Prop) : Prop :=
  match b with
  | some b => (b = true → A) ∧ (b = false → B)
  | none => False
theorem aguard_true (A B : Prop) : aguard (some true) A B = A := by simp [aguard]
theorem aguard_false (A B : Prop) : aguard (some false) A B = B := by simp [aguard]
theorem aguard_split {b : Bool} {A B : Prop} (h1 : b = true → A) (h2 : b = false → B) : aguard (some b) A B := ⟨h1, h2⟩
@[congr] theorem aguard_congr {b b' : Option Bool} (h : b = b') (A B : Prop) : aguard b A B = aguard b' A B := by rw [h]

def aops (P : Program) (ops : Array Oper) (m : Nat) : List Oper → Nat → Trace → (Cfg → Trace → Prop) → Cfg → Prop
  | [], _, T, k, c => k c T
  | o :: r, i, T, k, c => aguard (wantedA ops o c.s) (astep P o c (m + i) fun st => aops P ops m r (i + 1) (addT i st T) k (c.after o.dst st)) (aops P ops m r (i + 1) T k (c.after o.dst ⟨[], .tup [], []⟩))

theorem aops_nil (P : Program) (ops : Array Oper) (m i : Nat) (T : Trace) (k : Cfg → Trace → Prop) (c : Cfg) : aops P ops m [] i T k c = k c T := rfl
theorem aops_cons (P : Program) (ops : Array Oper) (m i : Nat) (T : Trace) (k : Cfg → Trace → Prop) (d : Option Tmp) (op : Op) (ty : TypeId) (pos : String) (after : Array Edge) (gd : Option (Nat × Bool)) (r : List Oper) (s : Slots) (σ : Nat → Ent) (n : Nat) :
    aops P ops m (⟨d, op, ty, pos, after, gd⟩ :: r) i T k ⟨s, σ, n⟩ = aguard (wantedG ops gd s) (AStepX P ⟨d, op, ty, pos, after, gd⟩ ⟨s, σ, n⟩ (m + i) fun st => aops P ops m r (i + 1) (addT i st T) k ⟨sput s d st.v, wr σ st.post, n⟩) (aops P ops m r (i + 1) T k ⟨sput s d (.tup []), σ, n⟩) := rfl
@[congr] theorem aops_congr {c c' : Cfg} {T T' : Trace} (h : c = c') (hT : T = T') (P : Program) (ops : Array Oper) (m : Nat) (l : List Oper) (i : Nat) (k : Cfg → Trace → Prop) : aops P ops m l i T k c = aops P ops m l i T' k c' := by rw [h, hT]
@[congr] theorem AStepX_congr {c c' : Cfg} (h : c = c') (P : Program) (o : Oper) (id : Nat) (k : Step → Prop) : AStepX P o c id k = AStepX P o c' id k := by rw [h]

/-! ### Two operations that no chain of edges orders do not meet -/
def depMasks : List Oper → List Nat → List Nat
  | [], ms => ms
  | o :: r, ms => depMasks r (ms ++ [o.after.toList.foldl (fun s e => if Region.binds .any e then s ||| 2 ^ e.on ||| ms.getD e.on 0 else s) 0])

def depB (ops : Array Oper) (i j : Nat) : Bool := ((depMasks ops.toList []).getD j 0).testBit i

theorem depMasks_sound (ops : Array Oper) : ∀ (l : List Oper) (k : Nat) (ms : List Nat), (∀ j, l[j]? = ops[k + j]?) → ms.length = k → (∀ i j, (ms.getD j 0).testBit i = true → Dep ops i j) →
    ∀ i j, ((depMasks l ms).getD j 0).testBit i = true → Dep ops i j
  | [], _, ms, _, _, h => h
  | o :: l, k, ms, hl, hlen, h => by
    have h0 : ops[k]? = some o := by simpa using (hl 0).symm
    refine depMasks_sound ops l (k + 1) _ (fun j => by have := hl (j + 1); simpa [Nat.add_assoc, Nat.add_comm 1 j] using this) (by simp [hlen]) fun i j hb => ?_
    by_cases hj : j < ms.length
    · rw [List.getD_eq_getElem?_getD, List.getElem?_append_left hj, ← List.getD_eq_getElem?_getD] at hb
      exact h i j hb
    · by_cases hjk : j = k
      · subst hjk
        rw [List.getD_eq_getElem?_getD, List.getElem?_append_right (by omega), hlen] at hb
        simp only [Nat.sub_self, List.getElem?_cons_zero, Option.getD_some] at hb
        have key : ∀ (es : List Edge) (s0 : Nat), (∀ e ∈ es, e ∈ o.after.toList) → ((s0.testBit i = true → Dep ops i j)) →
            (es.foldl (fun s e => if Region.binds .any e then s ||| 2 ^ e.on ||| ms.getD e.on 0 else s) s0).testBit i = true → Dep ops i j := by
          intro es
          induction es with
          | nil => intro s0 _ h0 hb; exact h0 hb
          | cons e r ih =>
            intro s0 hm h1 hb
            refine ih _ (fun e' he' => hm e' (List.mem_cons_of_mem _ he')) ?_ hb
            intro hb'
            simp only at hb'
            split at hb'
            · rename_i hbe
              have he : e ∈ o.after := by have := hm e (List.mem_cons_self ..); simpa using this
              have hd : Dep ops e.on j := .edge e.on j o e h0 he hbe rfl
              rw [Nat.testBit_or, Nat.testBit_or, Bool.or_eq_true, Bool.or_eq_true] at hb'
              rcases hb' with (hb' | hb') | hb'
              · exact h1 hb'
              · rw [Nat.testBit_two_pow] at hb'
                have : e.on = i := by simpa using hb'
                rw [← this]; exact hd
              · exact .trans i e.on j (h i e.on hb') hd
            · exact h1 hb'
        exact key _ 0 (fun e he => he) (fun hb => by simp at hb) hb
      · rw [List.getD_eq_getElem?_getD, List.getElem?_append_right (by omega)] at hb
        have : (List.length ms) + 1 ≤ j := by omega
        rw [List.getElem?_eq_none (by simp; omega)] at hb
        simp at hb

theorem depB_sound {ops : Array Oper} {i j : Nat} (h : depB ops i j = true) : Dep ops i j :=
  depMasks_sound ops ops.toList 0 [] (fun j => by simp) rfl (fun i j hb => by simp at hb) i j h

def DisjF (x y : Foot × Foot) : Prop := (∀ p ∈ x.2, ∀ q ∈ y.1 ++ y.2, p.1 ≠ q.1) ∧ (∀ p ∈ x.1, ∀ q ∈ y.2, p.1 ≠ q.1)
def Ind (ops : Array Oper) (i j : Nat) (x y : Foot × Foot) : Prop := depB ops i j = true ∨ DisjF x y
def CFy (ops : Array Oper) (y : Nat × Foot × Foot) : Trace → Prop
  | [] => True
  | x :: r => Ind ops x.1 y.1 x.2 y.2 ∧ CFy ops y r
def CF (ops : Array Oper) : Trace → Prop
  | [] => True
  | y :: r => CFy ops y r ∧ CF ops r

section
variable {P : Program} {ops : Array Oper} {m : Nat}

def addAll : Nat → List Step → Trace → Trace
  | _, [], T => T
  | i, st :: r, T => addAll (i + 1) r (addT i st T)

/-- The walk, its steps under names. -/
theorem aops_lex {Q : Cfg → Trace → Prop} : ∀ (l : List Oper) (i : Nat) (T : Trace) (c : Cfg), aops P ops m l i T Q c →
    ∃ outs : List Step, outs.length = l.length ∧ ∀ out : Nat → Step, (∀ j, j < l.length → out (i + j) = outs.getD j default) → lexA P ops m out (fun c' => Q c' (addAll i outs T)) l i c
  | [], i, T, c, h => ⟨[], rfl, fun out _ => h⟩
  | o :: l, i, T, c, h => by
    simp only [aops, aguard] at h
    cases hw : wantedA ops o c.s with
    | none => rw [hw] at h; exact h.elim
    | some b =>
      rw [hw] at h
      cases b with
      | true =>
        obtain ⟨st, hg, hk⟩ := astep_sound (h.1 rfl)
        obtain ⟨outs, hl, hr⟩ := aops_lex l (i + 1) _ _ hk
        refine ⟨st :: outs, by simp [hl], fun out ho => ?_⟩
        have h0 : out i = st := by simpa using ho 0 (by simp)
        refine ⟨.inl ⟨hw, ?_⟩, ?_⟩
        · rw [h0]; exact hg
        · rw [h0]
          exact hr out fun j hj => by
            have := ho (j + 1) (by simp; omega)
            rw [show i + (j + 1) = i + 1 + j from by omega] at this
            simpa using this
      | false =>
        obtain ⟨outs, hl, hr⟩ := aops_lex l (i + 1) _ _ (h.2 rfl)
        refine ⟨⟨[], .tup [], []⟩ :: outs, by simp [hl], fun out ho => ?_⟩
        have h0 : out i = ⟨[], .tup [], []⟩ := by simpa using ho 0 (by simp)
        refine ⟨.inr ⟨hw, h0⟩, ?_⟩
        · rw [h0]
          exact hr out fun j hj => by
            have := ho (j + 1) (by simp; omega)
            rw [show i + (j + 1) = i + 1 + j from by omega] at this
            simpa using this

def IndS (ops : Array Oper) (i j : Nat) (x y : Step) : Prop := Ind ops i j (x.pre, x.post) (y.pre, y.post)

theorem CFy_mem {y : Nat × Foot × Foot} : ∀ {T : Trace}, CFy ops y T → ∀ x ∈ T, Ind ops x.1 y.1 x.2 y.2
  | [], _, x, hx => by cases hx
  | z :: r, h, x, hx => by
    rcases List.mem_cons.1 hx with rfl | hx
    · exact h.1
    · exact CFy_mem h.2 x hx

theorem CF_addAll : ∀ (outs : List Step) (i : Nat) (T : Trace), CF ops (addAll i outs T) →
    CF ops T ∧ (∀ x ∈ T, ∀ (j : Nat) (st : Step), outs[j]? = some st → Ind ops x.1 (i + j) x.2 (st.pre, st.post)) ∧
    (∀ (j k : Nat) (st st' : Step), j < k → outs[j]? = some st → outs[k]? = some st' → IndS ops (i + j) (i + k) st st')
  | [], i, T, h => ⟨h, fun x _ j st hst => by simp at hst, fun j k st st' _ hst _ => by simp at hst⟩
  | st0 :: outs, i, T, h => by
    obtain ⟨h1, h2, h3⟩ := CF_addAll outs (i + 1) (addT i st0 T) h
    by_cases he : st0.pre = [] ∧ st0.post = []
    · have hT : addT i st0 T = T := by simp [addT, he.1, he.2]
      rw [hT] at h1 h2
      refine ⟨h1, fun x hx j st hst => ?_, fun j k st st' hjk hst hst' => ?_⟩
      · cases j with
        | zero =>
          simp at hst; subst hst
          exact .inr ⟨by simp [he.1, he.2], by simp [he.2]⟩
        | succ j =>
          have := h2 x hx j st (by simpa using hst)
          rwa [show i + (j + 1) = i + 1 + j from by omega]
      · cases j with
        | zero =>
          simp at hst; subst hst
          exact .inr ⟨by simp [he.2], by simp [he.1]⟩
        | succ j =>
          cases k with
          | zero => omega
          | succ k =>
            have := h3 j k st st' (by omega) (by simpa using hst) (by simpa using hst')
            rwa [show i + (j + 1) = i + 1 + j from by omega, show i + (k + 1) = i + 1 + k from by omega]
    · have hT : addT i st0 T = (i, st0.pre, st0.post) :: T := by
        unfold addT
        split
        · rename_i a b; exact absurd ⟨a, b⟩ he
        · rfl
      rw [hT] at h1 h2
      refine ⟨h1.2, fun x hx j st hst => ?_, fun j k st st' hjk hst hst' => ?_⟩
      · cases j with
        | zero => simp at hst; subst hst; exact CFy_mem h1.1 x hx
        | succ j =>
          have := h2 x (List.mem_cons_of_mem _ hx) j st (by simpa using hst)
          rwa [show i + (j + 1) = i + 1 + j from by omega]
      · cases j with
        | zero =>
          simp at hst; subst hst
          cases k with
          | zero => omega
          | succ k =>
            have := h2 (i, st0.pre, st0.post) (List.mem_cons_self ..) k st' (by simpa using hst')
            unfold IndS
            rwa [show i + (k + 1) = i + 1 + k from by omega]
        | succ j =>
          cases k with
          | zero => omega
          | succ k =>
            have := h3 j k st st' (by omega) (by simpa using hst) (by simpa using hst')
            rwa [show i + (j + 1) = i + 1 + j from by omega, show i + (k + 1) = i + 1 + k from by omega]

theorem wp_region_ab {W0 : World} {g : Ghost} {N : Nat} {c : Cfg} {a : Act} {w : World} {id : Nat} {draw : Bool} {Q : Cfg → Prop} {Q' : Exit → Act → World → Prop} (hmix : P.follows .mixedOrders = true) (hN : shapeOK N ops = true)
    (hB : draw = true → Region.lexB .any ops = true) (hS : SimA W0 g N c a w) (h : aops P ops c.n ops.toList 0 [] (fun c' T => (draw = true → CF ops T) ∧ Q c') { c with n := c.n + ops.size })
    (hQ : ∀ c g' a w, g.le g' → SimA W0 g' N c a w → Q c → Q' .normal a w) : (Code.region id ops draw).wp P Q' a w := by
  obtain ⟨outs, hl, hr⟩ := aops_lex _ _ _ _ h
  have hlex := hr (fun j => outs.getD j default) fun j _ => by simp
  have hS' : SimA W0 g N { c with n := c.n + ops.size } a w := ⟨hS.sim.more (by simp), hS.size, hS.defers, hS.slots⟩
  have hfree : ∀ j, c.σ (c.n + j) = .none := fun j => hS.sim.bound _ (by omega)
  cases draw with
  | false =>
    refine wp_region ?_
    have := lexA_sound (m := c.n) (P := P) (ops := ops) (out := fun j => outs.getD j default) (Q := fun c' => (false = true → CF ops (addAll 0 outs [])) ∧ Q c') (Q' := Q') (W0 := W0) g hN (fun c g' a w hg hs hq => hQ c g' a w hg hs hq.2) ops.toList 0 { c with n := c.n + ops.size } g a w
      (fun j => by simp) (by simp) g.le_refl hS' (Nat.le_refl _) (fun j _ _ => hfree j) hlex
    rw [List.range_eq_range']
    simpa using this
  | true =>
    have hB' := hB rfl
    simp only [Region.lexB, Bool.and_eq_true] at hB'
    have hdis : CF ops (addAll 0 outs []) → ∀ i j, i < j → ¬ Dep ops i j → Disj (outs.getD i default) (outs.getD j default) := by
      intro hCF i j hij hnd
      obtain ⟨_, _, h3⟩ := CF_addAll outs 0 [] hCF
      by_cases hj : j < outs.length
      · have hi : i < outs.length := by omega
        have := h3 i j outs[i] outs[j] hij (List.getElem?_eq_getElem hi) (List.getElem?_eq_getElem hj)
        have e1 : outs.getD i default = outs[i] := by simp [List.getD, List.getElem?_eq_getElem hi]
        have e2 : outs.getD j default = outs[j] := by simp [List.getD, List.getElem?_eq_getElem hj]
        rw [e1, e2]
        rcases this with hd | hd
        · simp only [Nat.zero_add] at hd
          exact absurd (depB_sound hd) hnd
        · exact hd
      · have e2 : outs.getD j default = (default : Step) := by simp [List.getD, List.getElem?_eq_none (Nat.not_lt.1 hj)]
        rw [e2]
        refine ⟨fun p _ q hq => ?_, fun p _ q hq => ?_⟩
        · exact (List.not_mem_nil hq).elim
        · exact (List.not_mem_nil hq).elim
    refine wp_region_any hmix ?_
    by_cases hCF : CF ops (addAll 0 outs [])
    · have hany := anyA_lex (P := P) (ops := ops) (m := c.n) (out := fun j => outs.getD j default) (Q := fun c' => (true = true → CF ops (addAll 0 outs [])) ∧ Q c') (hdis hCF) ops.toList 0 (Array.replicate ops.size false) { c with n := c.n + ops.size }
        (fun j => by simp) (fun k o ho hk => by
          exfalso
          rcases Nat.lt_or_ge k ops.size with h' | h'
          · simp [h'] at hk
          · simp [h'] at hk) (fun j hj => by omega) (by simpa using hB'.2) hlex
      have := anyA_sound (W0 := W0) (Q' := Q') g hN (fun c g' a w hg hs hq => hQ c g' a w hg hs hq.2) ops.toList.length (Array.replicate ops.size false) _ g a { w with drawn := w.drawn + 1 } g.le_refl ⟨hS'.sim.drew, hS'.size, hS'.defers, hS'.slots⟩ (Nat.le_refl _) (fun j _ _ => hfree j) hany
      simpa using this
    · exfalso
      have fin : ∀ (l : List Oper) (k : Nat) (c : Cfg) (mm : Nat), lexA P ops mm (fun j => outs.getD j default) (fun c' => (true = true → CF ops (addAll 0 outs [])) ∧ Q c') l k c → CF ops (addAll 0 outs []) := by
        intro l
        induction l with
        | nil => intro k c mm hx; exact hx.1 rfl
        | cons o r ih => intro k c mm hx; exact ih _ _ _ hx.2
      exact hCF (fin _ _ _ _ hlex)
end

/-! ### Code -/
inductive AExit where
  | normal
  | exit (id : Nat)
  | ret

def aThen (next : Cfg → Prop) (Q : AExit → Cfg → Prop) : AExit → Cfg → Prop
  | .normal, c => next c
  | e, c => Q e c
def aBlk (id : Nat) (Q : AExit → Cfg → Prop) : AExit → Cfg → Prop
  | .exit id', c => if id' = id then Q .normal c else Q (.exit id') c
  | e, c => Q e c
def acond (v : AV) (A B : Prop) : Prop :=
  match v with
  | .lit (.bool b) => (b = true → A) ∧ (b = false → B)
  | _ => False

/-- A post on values, as a post on worlds. -/
def LQ (W0 : World) (g : Ghost) (N : Nat) (Q : AExit → Cfg → Prop) : Exit → Act → World → Prop := fun e a w =>
  ∃ c g', g.le g' ∧ SimA W0 g' N c a w ∧ match e with
    | .normal => Q .normal c
    | .exit id => Q (.exit id) c
    | .ret => Q .ret c
    | _ => False

theorem LQ.mono {W0 : World} {g g' : Ghost} {N : Nat} {Q : AExit → Cfg → Prop} (hg : g.le g') {e : Exit} {a : Act} {w : World} (h : LQ W0 g' N Q e a w) : LQ W0 g N Q e a w :=
  let ⟨c, g'', hle, hs, hq⟩ := h
  ⟨c, g'', hg.trans hle, hs, hq⟩

def kReg (ops : Array Oper) (draw : Bool) (Q : AExit → Cfg → Prop) (c : Cfg) (T : Trace) : Prop := (draw = true → CF ops T) ∧ Q .normal c
theorem kReg_false (ops : Array Oper) (Q : AExit → Cfg → Prop) (c : Cfg) (T : Trace) : kReg ops false Q c T = Q .normal c := by simp [kReg]
theorem kReg_true (ops : Array Oper) (Q : AExit → Cfg → Prop) (c : Cfg) (T : Trace) : kReg ops true Q c T = (CF ops T ∧ Q .normal c) := by simp [kReg]
theorem CF_nil (ops : Array Oper) : CF ops [] = True := rfl
theorem CF_one (ops : Array Oper) (x : Nat × Foot × Foot) : CF ops [x] = True := by simp [CF, CFy]
@[congr] theorem acond_congr {v v' : AV} (h : v = v') (A B : Prop) : acond v A B = acond v' A B := by rw [h]
theorem acond_true (A B : Prop) : acond (.lit (.bool true)) A B = A := by simp [acond]
theorem acond_false (A B : Prop) : acond (.lit (.bool false)) A B = B := by simp [acond]
theorem acond_split {b : Bool} {A B : Prop} (h1 : b = true → A) (h2 : b = false → B) : acond (.lit (.bool b)) A B := ⟨h1, h2⟩

/-- What the text alone shows: every region's shape; where the order is open, that the text's order is one. -/
def codeOK (N : Nat) : Code → Bool
  | .seq x y => codeOK N x && codeOK N y
  | .cond x y z => opndOK x && codeOK N y && codeOK N z
  | .block _ b => codeOK N b
  | .loop b => codeOK N b
  | .scope b => codeOK N b
  | .region _ ops draw => shapeOK N ops && (!draw || Region.lexB .any ops)
  | .rangeFunc f _ a b => opndOK f && codeOK N a && codeOK N b
  | _ => true

@[congr] theorem aThen_congr {c c' : Cfg} (h : c = c') (Q : AExit → Cfg → Prop) (next : Cfg → Prop) (e : AExit) : aThen next Q e c = aThen next Q e c' := by rw [h]
@[congr] theorem aBlk_congr {c c' : Cfg} (h : c = c') (Q : AExit → Cfg → Prop) (id : Nat) (e : AExit) : aBlk id Q e c = aBlk id Q e c' := by rw [h]
@[congr] theorem kReg_congr {c c' : Cfg} {T T' : Trace} (h : c = c') (hT : T = T') (ops : Array Oper) (draw : Bool) (Q : AExit → Cfg → Prop) : kReg ops draw Q c T = kReg ops draw Q c' T' := by rw [h, hT]

/-- A piece of code, begun where the values and entities are so, ends so. -/
def aw (P : Program) (N : Nat) (b : Code) (Q : AExit → Cfg → Prop) (c : Cfg) : Prop :=
  codeOK N b = true → P.follows .mixedOrders = true → ∀ W0 g a w, SimA W0 g N c a w → b.wp P (LQ W0 g N Q) a w
abbrev ALoop (P : Program) (N : Nat) (b : Code) (Q : AExit → Cfg → Prop) (c : Cfg) : Prop := aw P N (.loop b) Q c

section
variable {P : Program} {N : Nat} {Q : AExit → Cfg → Prop} {c : Cfg}
@[congr] theorem aw_congr {c c' : Cfg} (h : c = c') (P : Program) (N : Nat) (Q : AExit → Cfg → Prop) (b : Code) : aw P N b Q c = aw P N b Q c' := by rw [h]
theorem aThen_normal (next : Cfg → Prop) : aThen next Q .normal c = next c := rfl
theorem aThen_exit (next : Cfg → Prop) (id : Nat) : aThen next Q (.exit id) c = Q (.exit id) c := rfl
theorem aThen_ret (next : Cfg → Prop) : aThen next Q .ret c = Q .ret c := rfl
theorem aBlk_normal (id : Nat) : aBlk id Q .normal c = Q .normal c := rfl
theorem aBlk_ret (id : Nat) : aBlk id Q .ret c = Q .ret c := rfl
theorem aBlk_exit (id id' : Nat) : aBlk id Q (.exit id') c = if id' = id then Q .normal c else Q (.exit id') c := rfl

theorem go_skip (h : Q .normal c) : aw P N .skip Q c := fun _ _ _ g _ _ hS => wp_skip ⟨c, g, g.le_refl, hS, h⟩
theorem go_label {l : Nat} (h : Q .normal c) : aw P N (.label l) Q c := fun _ _ _ g _ _ hS => wp_label ⟨c, g, g.le_refl, hS, h⟩
theorem go_exit {id : Nat} (h : Q (.exit id) c) : aw P N (.exit id) Q c := fun _ _ _ g _ _ hS => wp_exit ⟨c, g, g.le_refl, hS, h⟩
theorem go_ret (h : Q .ret c) : aw P N .ret Q c := fun _ _ _ g _ _ hS => wp_ret ⟨c, g, g.le_refl, hS, h⟩
theorem go_seq {x y : Code} (h : aw P N x (aThen (aw P N y Q) Q) c) : aw P N (.seq x y) Q c := fun hok hmix W0 g a w hS => by
  simp only [codeOK, Bool.and_eq_true] at hok
  refine wp_seq (wp_mono (h hok.1 hmix W0 g a w hS) fun e a' w' hq => ?_)
  obtain ⟨c', g', hle, hS', hq⟩ := hq
  cases e with
  | normal => exact wp_mono (hq hok.2 hmix W0 g' a' w' hS') fun e a w hq => hq.mono hle
  | exit id => exact ⟨c', g', hle, hS', hq⟩
  | ret => exact ⟨c', g', hle, hS', hq⟩
  | goto => exact hq.elim
  | panic => exact hq.elim
  | outgrown => exact hq.elim
theorem go_cond {x : Operand} {y z : Code} {b : Bool} (hv : aeval c.s x = .lit (.bool b)) (h1 : b = true → aw P N y Q c) (h2 : b = false → aw P N z Q c) : aw P N (.cond x y z) Q c := fun hok hmix W0 g a w hS => by
  simp only [codeOK, Bool.and_eq_true] at hok
  have hr := hS.eval hok.1.1
  rw [hv] at hr
  exact wp_cond_split (rep_lit_inv hr) (fun hb' => h1 hb' hok.1.2 hmix W0 g a w hS) (fun hb' => h2 hb' hok.2 hmix W0 g a w hS)
theorem go_condT {x : Operand} {y z : Code} (hv : aeval c.s x = .lit (.bool true)) (h : aw P N y Q c) : aw P N (.cond x y z) Q c := go_cond hv (fun _ => h) (fun h => by cases h)
theorem go_condF {x : Operand} {y z : Code} (hv : aeval c.s x = .lit (.bool false)) (h : aw P N z Q c) : aw P N (.cond x y z) Q c := go_cond hv (fun h => by cases h) (fun _ => h)
theorem go_block {id : Nat} {b : Code} (h : aw P N b (aBlk id Q) c) : aw P N (.block id b) Q c := fun hok hmix W0 g a w hS => by
  refine wp_block (wp_mono (h hok hmix W0 g a w hS) fun e a' w' hq => ?_)
  obtain ⟨c', g', hle, hS', hq⟩ := hq
  cases e with
  | normal => exact ⟨c', g', hle, hS', hq⟩
  | exit id' =>
    simp only [aBlk] at hq
    simp only [Exit.inBlock]
    split at hq
    · rename_i he; rw [if_pos he]; exact ⟨c', g', hle, hS', hq⟩
    · rename_i he; rw [if_neg he]; exact ⟨c', g', hle, hS', hq⟩
  | ret => exact ⟨c', g', hle, hS', hq⟩
  | goto => exact hq.elim
  | panic => exact hq.elim
  | outgrown => exact hq.elim
theorem go_scope {b : Code} (h : aw P N b Q c) : aw P N (.scope b) Q c := fun hok hmix W0 g a w hS => by
  refine wp_scope_straight (wp_mono (h hok hmix W0 g a w hS) fun e a' w' hq => ?_)
  obtain ⟨c', g', hle, hS', hq⟩ := hq
  cases e with
  | normal => exact ⟨c', g', hle, hS', hq⟩
  | exit id => exact ⟨c', g', hle, hS', hq⟩
  | ret => exact ⟨c', g', hle, hS', hq⟩
  | goto => exact hq.elim
  | panic => exact hq.elim
  | outgrown => exact hq.elim
theorem go_region {id : Nat} {l : List Oper} {draw : Bool} {s : Slots} {σ : Nat → Ent} {n n' : Nat} (hn : n + l.length = n') (h : aops P l.toArray n l 0 [] (kReg l.toArray draw Q) ⟨s, σ, n'⟩) : aw P N (.region id l.toArray draw) Q ⟨s, σ, n⟩ := fun hok hmix W0 g a w hS => by
  subst hn
  simp only [codeOK, Bool.and_eq_true, Bool.or_eq_true, Bool.not_eq_true'] at hok
  exact wp_region_ab hmix hok.1 (fun hd => hok.2.resolve_left (by simp [hd])) hS h fun c g' a w hg hs hq => ⟨c, g', hg, hs, hq⟩
theorem go_loop {b : Code} (h : ALoop P N b Q c) : aw P N (.loop b) Q c := h

/-- The entities and the values may be read otherwise. -/
theorem go_ghost {b : Code} {c' : Cfg} (hg : ∀ W0 g a w, SimA W0 g N c a w → ∃ g', g.le g' ∧ SimA W0 g' N c' a w) (h : aw P N b Q c') : aw P N b Q c := fun hok hmix W0 g a w hS => by
  obtain ⟨g', hle, hS'⟩ := hg W0 g a w hS
  exact wp_mono (h hok hmix W0 g' a w hS') fun e a w hq => hq.mono hle
/-- The end of a piece, said otherwise. -/
theorem go_mid {b : Code} {Q' : AExit → Cfg → Prop} (h : aw P N b Q' c) (hq : ∀ e c', Q' e c' → Q e c') : aw P N b Q c := fun hok hmix W0 g a w hS =>
  wp_mono (h hok hmix W0 g a w hS) fun e a w ⟨c', g', hle, hS', hQ⟩ => ⟨c', g', hle, hS', by cases e <;> first | exact hq _ _ hQ | exact hQ.elim⟩
end

theorem wp_loop_ghost {P : Program} {Q : Exit → Act → World → Prop} {a : Act} {w : World} {c : Code} {X : Type} (I : X → Act → World → Prop) (μ : X → Nat) (x : X) (h₀ : I x a w)
    (round : ∀ x a w, I x a w → c.wp P (Exit.then (fun a' w' => ∃ y, I y a' w' ∧ μ y < μ x) Q) a w) : (Code.loop c).wp P Q a w := by
  intro b k cs
  have key : ∀ n x a w, μ x = n → I x a w →
      ∃ e a' w', Q e a' w' ∧ Arrives P (lone (b.at a (.code c :: .inLoop c :: k)) cs w) b k cs e a' w' := by
    intro n
    induction n using Nat.strongRecOn with
    | _ n ih =>
      intro x a w hn hI
      obtain ⟨e, a₁, w₁, hq, harr⟩ := round x a w hI b (.inLoop c :: k) cs
      cases e with
      | normal =>
        obtain ⟨y, hI₁, hlt⟩ := hq
        obtain ⟨e₂, a₂, w₂, hq₂, harr₂⟩ := ih (μ y) (hn ▸ hlt) y a₁ w₁ rfl hI₁
        exact ⟨e₂, a₂, w₂, hq₂, .of_steps (Steps.trans harr (.one step_inLoop)) harr₂⟩
      | exit id => exact ⟨_, a₁, w₁, hq, .pass (x := .inLoop c) rfl (fun _ _ => .inl (by simp)) harr⟩
      | goto l => exact ⟨_, a₁, w₁, hq, .pass (x := .inLoop c) rfl (fun _ _ => .inl (by simp)) harr⟩
      | ret => exact ⟨_, a₁, w₁, hq, .pass (x := .inLoop c) rfl (fun _ _ => .inl (by simp)) harr⟩
      | panic ch => exact ⟨_, a₁, w₁, hq, .pass (x := .inLoop c) rfl (fun _ _ => .inl (by simp)) harr⟩
      | outgrown => exact ⟨_, a₁, w₁, hq, .pass (x := .inLoop c) rfl (fun _ _ => .inl (by simp)) harr⟩
  obtain ⟨e, a', w', hq, harr⟩ := key _ x a w rfl h₀
  exact ⟨e, a', w', hq, .of_steps (.one step_loop) harr⟩

/-- A loop, by what holds at every round's head, and what a round lowers. -/
theorem aloop {P : Program} {N : Nat} {b : Code} {Q : AExit → Cfg → Prop} {c : Cfg} (_hmix : P.follows .mixedOrders = true) (_hok : codeOK N b = true) (I : Cfg → Prop) (μ : Cfg → Nat) (h0 : I c)
    (round : ∀ c, I c → aw P N b (aThen (fun c' => I c' ∧ μ c' < μ c) Q) c) : ALoop P N b Q c := by
  intro hok hmix W0 g a w hS
  refine wp_loop_ghost (X := Cfg) (fun x a w => ∃ g', g.le g' ∧ SimA W0 g' N x a w ∧ I x) μ c ⟨g, g.le_refl, hS, h0⟩ fun x a w ⟨g', hle, hS', hI⟩ => ?_
  refine wp_mono (round x hI hok hmix W0 g' a w hS') fun e a' w' ⟨c', g'', hle', hS'', hq⟩ => ?_
  cases e with
  | normal => exact ⟨c', ⟨g'', hle.trans hle', hS'', hq.1⟩, hq.2⟩
  | exit id => exact ⟨c', g'', hle.trans hle', hS'', hq⟩
  | ret => exact ⟨c', g'', hle.trans hle', hS'', hq⟩
  | goto => exact hq.elim
  | panic => exact hq.elim
  | outgrown => exact hq.elim
end Go.Ab
