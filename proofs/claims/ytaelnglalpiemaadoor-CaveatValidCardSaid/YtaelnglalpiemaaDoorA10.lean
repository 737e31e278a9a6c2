/- Tests against nil. -/
import Derived.Test.YtaelnglalpiemaaDoorA9
namespace Go.Ab
open Go.RowKit

def nilKind (P : Program) (t : TypeId) : Nat :=
  match P.underlying t with
  | some (.slice _) => 1
  | some (.pointer _) => 2
  | some (.func _ _ _) => 3
  | _ => 0

def isNilV : Value → Option (Nat × Bool)
  | .slice A _ _ => some (1, A.isNone)
  | .pointer A => some (2, A.isNone)
  | .nilFunc => some (3, true)
  | .func _ _ _ => some (3, false)
  | _ => none

def nilAV : AV → Option (Nat × Bool)
  | .nils => some (1, true)
  | .slice _ xs => if xs.isEmpty then none else some (1, false)
  | .ptr _ _ _ => some (2, false)
  | .view _ => some (2, false)
  | .mp _ _ _ _ => some (2, false)
  | .bs _ _ _ _ _ => some (1, false)
  | .fn _ _ => some (3, false)
  | .lit v => isNilV v
  | _ => none

theorem nilAV_sound {g : Ghost} {x : AV} {v : Value} {kb : Nat × Bool} (h : nilAV x = some kb) (hr : Rep g x v) : isNilV v = some kb := by
  cases hr with
  | any _ _ => cases h
  | lit v _ => exact h
  | nils => exact h
  | slice own xs vs A c size hvl hc hm _ hs hcell hown =>
    cases xs with
    | nil => simp [nilAV] at h
    | cons x xs =>
      simp only [nilAV, List.isEmpty_cons] at h
      rcases hcell with h0 | ⟨b, o, hA, _⟩
      · simp at h0
      · subst hA; simpa [isNilV] using h
  | agg => cases h
  | ptr => exact h
  | view => exact h
  | fn => exact h
  | tup => cases h
  | clip => cases h
  | ms => cases h
  | mp => exact h
  | bs => exact h
  | iface => cases h

theorem run_equalIn_nil {P : Program} {t : TypeId} {a b : Value} {k : Nat} {p : Bool} (ha : isNilV a = some (k, p)) (hb : isNilV b = some (k, true)) (ht : nilKind P t = k) (d : Nat) (w : World) : (Op.equalIn (d + 1) t a b).run P w = .ok p w := by
  unfold nilKind at ht
  cases a <;> simp [isNilV] at ha <;> obtain ⟨rfl, rfl⟩ := ha <;> cases b <;> simp [isNilV] at hb
  all_goals
    split at ht <;> simp at ht
    rename_i hu
    try subst hb
  all_goals first
    | (rename_i A _ _ _ _ _ _ _; cases A <;> simp [Op.equalIn, run_underlying hu]; done)
    | (rename_i A _ _ _ _ _ _; cases A <;> simp [Op.equalIn, run_underlying hu]; done)
    | (rename_i A _ _ _ _ _; cases A <;> simp [Op.equalIn, run_underlying hu]; done)
    | (rename_i A _ _ _ _; cases A <;> simp [Op.equalIn, run_underlying hu]; done)
    | (rename_i A _ _ _; cases A <;> simp [Op.equalIn, run_underlying hu]; done)
    | (rename_i A _ _; cases A <;> simp [Op.equalIn, run_underlying hu]; done)
    | (rename_i A _; cases A <;> simp [Op.equalIn, run_underlying hu]; done)
    | (simp [Op.equalIn, run_underlying hu]; done)

theorem run_equal_nil {P : Program} {t : TypeId} {a b : Value} {k : Nat} {p : Bool} (ha : isNilV a = some (k, p)) (hb : isNilV b = some (k, true)) (ht : nilKind P t = k) (w : World) : (Op.equal t a b).run P w = .ok p w :=
  run_equalIn_nil ha hb ht 9999 w

theorem binOp_eql_nil {t : TypeId} {a b : Value} {kp : Nat × Bool} (ha : isNilV a = some kp) : binOp .eql t a b = (do pure (.bool (← Op.equal t a b))) := by
  cases a <;> simp [isNilV] at ha <;> rfl
theorem binOp_neq_nil {t : TypeId} {a b : Value} {kp : Nat × Bool} (ha : isNilV a = some kp) : binOp .neq t a b = (do pure (.bool !(← Op.equal t a b))) := by
  cases a <;> simp [isNilV] at ha <;> rfl

def evNilEq (P : Program) (op : BinOp) (t : TypeId) (u v : AV) : Option Bool :=
  match nilAV u, nilAV v with
  | some (k, p), some (k', true) => if k = k' ∧ nilKind P t = k then
      match op with
      | .eql => some p
      | .neq => some !p
      | _ => none
    else none
  | _, _ => none

theorem holds_nilEq {P : Program} {o : Oper} {s : Slots} {id : Nat} {op : BinOp} {t yt : TypeId} {x y : Operand} {u v : AV} {r : Bool} (ho : o.op = .binOp op t x y yt) (hx : aeval s x = u) (hy : aeval s y = v) (h : evNilEq P op t u v = some r) :
    OpHolds P o s id [] (.lit (.bool r)) [] :=
  holds_pure fun g w a hr => by
    have h1 := hr x (by simp [ho, Op.operands])
    have h2 := hr y (by simp [ho, Op.operands])
    rw [hx] at h1
    rw [hy] at h2
    refine ⟨.bool r, ?_, .lit _ rfl⟩
    unfold evNilEq at h
    split at h
    · rename_i k p k' e1 e2
      split at h
      · rename_i hc
        obtain ⟨rfl, hk⟩ := hc
        have a1 := nilAV_sound e1 h1
        have a2 := nilAV_sound e2 h2
        have hrun := run_equal_nil (P := P) a1 a2 hk w
        simp only [execOp, ho]
        generalize a.eval x = X at *
        generalize a.eval y = Y at *
        have hg : ∀ op, eqGuard op t x y X Y = pure () := by
          intro op
          unfold eqGuard
          cases X <;> simp [isNilV] at a1 <;> cases Y <;> simp [isNilV] at a2 <;> cases op <;> rfl
        rw [hg]
        split at h
        · cases h
          rw [binOp_eql_nil a1]
          simp only [Sem.run_bind, Sem.run_pure, Result.andThen_ok, hrun]
        · cases h
          rw [binOp_neq_nil a1]
          simp only [Sem.run_bind, Sem.run_pure, Result.andThen_ok, hrun]
        · cases h
      · cases h
    · cases h
end Go.Ab
