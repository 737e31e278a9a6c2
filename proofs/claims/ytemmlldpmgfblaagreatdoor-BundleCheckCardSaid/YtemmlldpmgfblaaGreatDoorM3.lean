/- Texts B3, C1, C2, C3, C4, C5, C6, C7, C11, C9, joined. -/
import Derived.Test.YtemmlldpmgfblaaGreatDoorM2
import Derived.Laws.BitsLemmas
import Derived.ChangeArms
import Derived.OpenShut

/- Contracts: what a call of a function comes to (ACall); that it follows from the walk of the body; how a call is met in a walk. -/
namespace Go.Ab
open Go.RowKit

mutual
def AV.ren (f : Nat → Option Nat) : AV → AV
  | .any => .any
  | .lit v => .lit v
  | .nils => .nils
  | .slice own xs => .slice (own.bind f) (AV.renl f xs)
  | .agg xs => .agg (AV.renl f xs)
  | .ptr id p o => match f id with
    | some j => .ptr j p o
    | none => .any
  | .view x => .view (AV.ren f x)
  | .fn g xs => .fn g (AV.renl f xs)
  | .tup xs => .tup (AV.renl f xs)
  | .clip xs => .clip (AV.renl f xs)
  | .ms id ver size lo len => match f id with
    | some j => .ms j ver size lo len
    | none => .any
  | .mp id ver p o => match f id with
    | some j => .mp j ver p o
    | none => .any
  | .bs id p lo o len => match f id with
    | some j => .bs j p lo o len
    | none => .any
  | .iface t x => .iface t (AV.ren f x)
def AV.renl (f : Nat → Option Nat) : List AV → List AV
  | [] => []
  | x :: r => AV.ren f x :: AV.renl f r
end

theorem AV.renl_map (f : Nat → Option Nat) (xs : List AV) : AV.renl f xs = xs.map (AV.ren f) := by
  induction xs with
  | nil => rfl
  | cons x r ih => simp [AV.renl, ih]

def Ent.ren (f : Nat → Option Nat) : Ent → Ent
  | .none => .none
  | .box t x => .box t (x.ren f)
  | .fbox t x => .fbox t (x.ren f)
  | .row e s n => .row e s n
  | .mrow ver e s xs => .mrow ver e s (AV.renl f xs)
  | .glob h x => .glob h (x.ren f)
  | .mark => .mark
  | .loop l N r s => .loop l N r (fun t => (s t).ren f)

theorem renl_at {f : Nat → Option Nat} {xs : List AV} {i : Nat} {x : AV} (h : (AV.renl f xs)[i]? = some x) : ∃ y, xs[i]? = some y ∧ x = y.ren f := by
  rw [AV.renl_map, List.getElem?_map] at h
  cases hy : xs[i]? with
  | none => rw [hy] at h; cases h
  | some y => rw [hy] at h; cases h; exact ⟨y, rfl, rfl⟩

theorem Rep.ren {g g2 : Ghost} {f : Nat → Option Nat} (hG : ∀ b o u, g.G b o = some u → g2.G b o = some u) (hl : ∀ id j, f id = some j → ∀ b, g.loc id = some b → g2.loc j = some b) (hr : ∀ id j, f id = some j → ∀ u, g.row id = some u → g2.row j = some u) (hm : ∀ id j, f id = some j → ∀ u, g.mr id = some u → g2.mr j = some u)
    {x : AV} {v : Value} (h : Rep g x v) : Rep g2 (x.ren f) v := by
  induction h with
  | any v h => exact .any v h
  | lit v h => exact .lit v h
  | nils => exact .nils
  | slice own xs vs A c size hvl hc hmx _ hs hcell hown ih =>
    have hlen : (AV.renl f xs).length = xs.length := by rw [AV.renl_map, List.length_map]
    have := Rep.slice (g := g2) (own.bind f) (AV.renl f xs) vs A c size (by rw [hlen]; exact hvl) (by rw [hlen]; exact hc) hmx (fun i x v hx hv => by obtain ⟨y, hy, rfl⟩ := renl_at hx; exact ih i y v hy hv) hs
      (by rw [hlen]; exact hcell.imp id fun ⟨b, o, hA, hG'⟩ => ⟨b, o, hA, fun j u hu => hG _ _ _ (hG' j u hu)⟩) (fun id hid => by
        cases own with
        | none => cases hid
        | some i =>
          obtain ⟨u, h1, h2, h3⟩ := hown i rfl
          exact ⟨u, hr i id hid u h1, by rw [hlen]; exact h2, fun he => by rw [hlen] at he ⊢; exact h3 he⟩)
    rw [hlen] at this
    exact this
  | agg xs vs hvl _ ih => exact .agg (AV.renl f xs) vs (by rw [AV.renl_map, List.length_map]; exact hvl) fun i x v hx hv => by obtain ⟨y, hy, rfl⟩ := renl_at hx; exact ih i y v hy hv
  | ptr id path off b h =>
    simp only [AV.ren]
    split
    · rename_i j hj; exact .ptr j path off b (hl id j hj b h)
    · exact .any _ rfl
  | view x v b o _ hc ih => exact .view _ v b o ih fun j u hu => hG _ _ _ (hc j u hu)
  | fn k xs vs hvl _ ih => exact .fn k (AV.renl f xs) vs (by rw [AV.renl_map, List.length_map]; exact hvl) fun i x v hx hv => by obtain ⟨y, hy, rfl⟩ := renl_at hx; exact ih i y v hy hv
  | tup xs vs hvl _ ih => exact .tup (AV.renl f xs) vs (by rw [AV.renl_map, List.length_map]; exact hvl) fun i x v hx hv => by obtain ⟨y, hy, rfl⟩ := renl_at hx; exact ih i y v hy hv
  | clip xs A n _ ih => exact .clip _ A n ih
  | ms id ver size lo len ver' u A c hmr hv hlc hc h =>
    simp only [AV.ren]
    split
    · rename_i j hj; exact .ms j ver size lo len ver' u A c (hm id j hj _ hmr) hv hlc hc h
    · exact .any _ rfl
  | mp id ver path off ver' u a hmr hv h =>
    simp only [AV.ren]
    split
    · rename_i j hj; exact .mp j ver path off ver' u a (hm id j hj _ hmr) hv h
    · exact .any _ rfl
  | bs id path lo off len b c h hlc hc =>
    simp only [AV.ren]
    split
    · rename_i j hj; exact .bs j path lo off len b c (hl id j hj b h) hlc hc
    · exact .any _ rfl
  | iface t x v _ ih => exact .iface t _ v ih

theorem renl_id {f : Nat → Option Nat} {xs : List AV} (h : ∀ (i : Nat) (x : AV), xs[i]? = some x → x.ren f = x) : AV.renl f xs = xs := by
  rw [AV.renl_map]
  apply List.ext_getElem?
  intro i
  rw [List.getElem?_map]
  cases hx : xs[i]? with
  | none => rfl
  | some x => simp [h i x hx]

theorem Rep.ren_id {g : Ghost} {f : Nat → Option Nat} (hl : ∀ id b, g.loc id = some b → f id = some id) (hr : ∀ id u, g.row id = some u → f id = some id) (hmr : ∀ id u, g.mr id = some u → f id = some id) {x : AV} {v : Value} (h : Rep g x v) : x.ren f = x := by
  have sub : ∀ {xs : List AV} {vs : List Value}, vs.length = xs.length → (∀ (i : Nat) (x : AV) (v : Value), xs[i]? = some x → vs[i]? = some v → x.ren f = x) → AV.renl f xs = xs := fun {xs vs} hvl ih =>
    renl_id fun i x hx => by
      have hlt : i < vs.length := by rw [hvl]; exact (List.getElem?_eq_some_iff.1 hx).1
      exact ih i x _ hx (List.getElem?_eq_getElem hlt)
  induction h with
  | any v h => rfl
  | lit v h => rfl
  | nils => rfl
  | slice own xs vs A c size hvl hc hm _ hs hcell hown ih =>
    simp only [AV.ren, sub hvl ih]
    cases own with
    | none => rfl
    | some i =>
      obtain ⟨u, h1, _⟩ := hown i rfl
      simp [hr i u h1]
  | agg xs vs hvl _ ih => simp only [AV.ren, sub hvl ih]
  | ptr id path off b h => simp only [AV.ren, hl id b h]
  | view x v b o _ hc ih => simp only [AV.ren, ih]
  | fn k xs vs hvl _ ih => simp only [AV.ren, sub hvl ih]
  | tup xs vs hvl _ ih => simp only [AV.ren, sub hvl ih]
  | clip xs A n _ ih => simp only [AV.ren, AV.slice.injEq] at ih ⊢; rw [ih.2]
  | ms id ver size lo len ver' u A c hm hv hl hc h => simp only [AV.ren, hmr id _ hm]
  | mp id ver path off ver' u a hm hv h => simp only [AV.ren, hmr id _ hm]
  | bs id path lo off len b c h hlc hc => simp only [AV.ren, hl id b h]
  | iface t x v _ ih => simp only [AV.ren, ih]

/-- An entity under other numbers. -/
theorem EntOK.ren {W0 : World} {g g2 : Ghost} {w : World} {f : Nat → Option Nat} {i j : Nat} {E : Ent} (h : EntOK W0 g w i E) (hG : g2.G = g.G) (hl : g2.loc j = g.loc i) (hr : g2.row j = g.row i) (ho : g2.own j = g.own i) (hm : g2.mr j = g.mr i)
    (hrep : ∀ x v, Rep g x v → Rep g2 (x.ren f) v) : EntOK W0 g2 w j (E.ren f) := by
  cases E with
  | none => exact ⟨hl.trans h.1, hr.trans h.2.1, ho.trans h.2.2.1, hm.trans h.2.2.2⟩
  | glob q x =>
    obtain ⟨k1, k2, k3, ⟨u, k4, k5⟩, k6⟩ := h
    exact ⟨hl.trans k1, hr.trans k2, ho.trans k3, ⟨u, hm.trans k4, k5⟩, hrep (.view x) _ k6⟩
  | mark =>
    obtain ⟨k1, k2, b, u, k3, k4, k5, k6⟩ := h
    exact ⟨ho.trans k1, hm.trans k2, b, u, hl.trans k3, hr.trans k4, k5, fun o => by rw [hG]; exact k6 o⟩
  | loop l N r s =>
    obtain ⟨k1, k2, ⟨u, k3⟩, k4, ⟨T, k5, k6, k7⟩, k8⟩ := h
    exact ⟨ho.trans k1, hr.trans k2, ⟨u, hm.trans k3⟩, hl.trans k4, ⟨T, k5, fun t => hrep _ _ (k6 t), k7⟩, fun o => by rw [hG]; exact k8 o⟩
  | box t x =>
    obtain ⟨k1, k2, k3, b, v, k4, k5, k6, k7⟩ := h
    exact ⟨hr.trans k1, ho.trans k2, hm.trans k3, b, v, hl.trans k4, hrep _ _ k5, k6, fun o => by rw [hG]; exact k7 o⟩
  | fbox t x =>
    obtain ⟨k1, k2, k3, b, v, k4, k5, k6, k7⟩ := h
    exact ⟨hr.trans k1, ho.trans k2, hm.trans k3, b, v, hl.trans k4, hrep _ _ k5, k6, fun o => by rw [hG]; exact k7 o⟩
  | row e size k =>
    obtain ⟨k1, u, cells, k3, k4, k5⟩ := h
    refine ⟨hl.trans k1, u, cells, hr.trans k3, k4, ?_⟩
    rw [ho, hG]
    exact k5
  | mrow ver e size xs =>
    obtain ⟨k1, k2, k3, u, vs, k4, k5, k6, k7, k8, k9, k10⟩ := h
    have hlen : (AV.renl f xs).length = xs.length := by rw [AV.renl_map, List.length_map]
    refine ⟨hl.trans k1, hr.trans k2, ho.trans k3, u, vs, hm.trans k4, by rw [hlen]; exact k5, by rw [hlen]; exact k6, fun i x v hx hv => ?_, k8, by rw [hlen]; exact k9, by rw [hG]; exact k10⟩
    obtain ⟨y, hy, rfl⟩ := renl_at hx
    exact hrep _ _ (k7 i y v hy hv)

theorem EntOK.ren_id {W0 : World} {g : Ghost} {w : World} {f : Nat → Option Nat} {i : Nat} {E : Ent} (h : EntOK W0 g w i E) (hrep : ∀ x v, Rep g x v → x.ren f = x) : E.ren f = E := by
  cases E with
  | none => rfl
  | glob q x => have := hrep (.view x) _ h.2.2.2.2; simp only [AV.ren, AV.view.injEq] at this; simp only [Ent.ren, this]
  | box t x => obtain ⟨_, _, _, b, v, _, k5, _⟩ := h; simp only [Ent.ren, hrep _ _ k5]
  | fbox t x => obtain ⟨_, _, _, b, v, _, k5, _⟩ := h; simp only [Ent.ren, hrep _ _ k5]
  | row e size k => rfl
  | mark => rfl
  | loop l N r s =>
    obtain ⟨_, _, _, _, ⟨T, _, k6, _⟩, _⟩ := h
    simp only [Ent.ren]
    have : (fun t => (s t).ren f) = s := funext fun t => hrep _ _ (k6 t)
    rw [this]
  | mrow ver e size xs =>
    obtain ⟨_, _, _, u, vs, _, _, k6, k7, _⟩ := h
    simp only [Ent.ren]
    rw [renl_id fun i x hx => ?_]
    have hlt : i < vs.length := by rw [k6]; exact (List.getElem?_eq_some_iff.1 hx).1
    exact hrep _ _ (k7 i x _ hx (List.getElem?_eq_getElem hlt))

/-! ### Contracts -/
def callable (P : Program) (f : FuncId) : Bool :=
  match P.funcs[f]? with
  | some fn => !(fn.name == "runtime.NumGoroutine") && fn.body.isSome
  | none => false

/-- What a call comes to: 'k': a number that is free for what it makes and hands back; 'pre': what it asks of the entities; 'r': its result; 'post': what it leaves of them. -/
def ACall (P : Program) (f : FuncId) (args : List AV) (k : Nat) (pre : Foot) (r : AV) (post : Foot) : Prop :=
  callable P f = true ∧ (∀ p ∈ pre, p.2 ≠ .none) ∧ (∀ q ∈ post, q.1 = k ∨ ∃ p ∈ pre, p.1 = q.1) ∧
  ∀ (W0 : World) (g : Ghost) (σ : Nat → Ent) (n : Nat) (w : World) (vals : List Value), Sim W0 g σ n w → vals.length = args.length → (∀ (i : Nat) (x : AV) (v : Value), args[i]? = some x → vals[i]? = some v → Rep g x v) →
    σ k = .none → k < n → (∀ p ∈ pre, σ p.1 = p.2) →
    Calls P f vals.toArray w fun e w' => ∃ u, e = .returned u ∧ ∃ g', g.le g' ∧ Sim W0 g' (wr σ post) n w' ∧ Rep g' r u

section
variable {P : Program} {o : Oper} {s : Slots} {id : Nat}

theorem run_callFunc {f : FuncId} {args : Array Value} {w : World} (h : callable P f = true) : (callFunc f args).run P w = .ok (.enter f args) w := by
  unfold callable at h
  split at h
  · rename_i fn hfn
    simp only [Bool.and_eq_true, Bool.not_eq_true'] at h
    unfold callFunc
    simp only [Sem.run_bind, run_program, Result.andThen_ok, hfn]
    rw [if_neg (by simp [h.1])]
    cases hb : fn.body with
    | none => rw [hb] at h; simp at h
    | some c => simp
  · cases h

theorem holds_call {x : Operand} {args : Array Operand} {ts : Array TypeId} {f : FuncId} {caps : List AV} {pre post : Foot} {r : AV} (ho : o.op = .call { callee := .value x, args := args, argTypes := ts }) (hx : aeval s x = .fn f caps)
    (h : ACall P f (args.toList.map (aeval s) ++ caps) id pre r post) : OpHolds P o s id pre r post := by
  obtain ⟨hc, hp, hq, hrun⟩ := h
  refine ⟨hp, hq, fun W0 g σ n w a hS hr hf hn hpre => ?_⟩
  have h1 := hr x (by simp [ho, Op.operands, Call.operands])
  have h2 : ∀ y ∈ args, Rep g (aeval s y) (a.eval y) := fun y hy => hr y (by simp [ho, Op.operands, Call.operands, hy])
  rw [hx] at h1
  generalize hv : a.eval x = v at h1
  cases h1 with
  | fn _ _ vs hvl hvr =>
    have hexec : (execOp a.eval o).run P w = .ok (.enter f ((args.toList.map a.eval ++ vs).toArray)) w := by
      simp only [execOp, ho, resolve, hv, Deferred.ofValue, Sem.run_bind, Sem.run_pure, Result.andThen_ok, invoke]
      rw [run_callFunc hc]
      congr 2
      simp [← Array.toList_map]
    unfold runsTo
    rw [hexec]
    refine (hrun W0 g σ n w (args.toList.map a.eval ++ vs) hS (by simp [hvl]) (fun i y u hy hu => ?_) hf hn hpre).mono fun e w' h => h
    by_cases hi : i < args.toList.length
    · rw [List.getElem?_append_left (by simpa using hi), List.getElem?_map] at hy hu
      cases hz : args.toList[i]? with
      | none => rw [hz] at hy; cases hy
      | some z =>
        rw [hz] at hy hu
        cases hy; cases hu
        exact h2 z (by have := List.mem_of_getElem? hz; simpa using this)
    · rw [List.getElem?_append_right (by simpa using hi)] at hy hu
      simp only [List.length_map] at hy hu
      exact hvr _ y u hy hu

/-- A call, met by its contract. -/
theorem astepX_call {c : Cfg} {k : Step → Prop} {x : Operand} {args : Array Operand} {ts : Array TypeId} {f : FuncId} {caps : List AV} {pre post : Foot} {r : AV} (ho : o.op = .call { callee := .value x, args := args, argTypes := ts }) (hx : aeval c.s x = .fn f caps)
    (h : ACall P f (args.toList.map (aeval c.s) ++ caps) id pre r post) (hp : ∀ p ∈ pre, c.σ p.1 = p.2) (hk : k ⟨pre, r, post⟩) : AStepX P o c id k :=
  ⟨⟨pre, r, post⟩, ⟨holds_call ho hx h, hp⟩, hk⟩
end

/-! ### From the body's walk to the contract -/
def initS (args : List AV) : Slots := fun t => args.getD t (.tup [])

theorem initS_zero (a : AV) (l : List AV) : initS (a :: l) 0 = a := rfl
theorem initS_succ (a : AV) (l : List AV) (n : Nat) : initS (a :: l) (n + 1) = initS l n := rfl
theorem initS_nil (n : Nat) : initS [] n = .tup [] := rfl

def aresult1 (P : Program) (c : Cfg) : ResultVar → Option AV
  | .tmp t => some (c.s t)
  | .cell a t => match c.s a with
    | .ptr i p q => match evBox c.σ i with
      | some (_, x, _) => match x.get p with
        | some y => if x.offs p = q ∧ tyInfo P t = some (y.isAgg, y.sz) then some y else none
        | none => none
      | none => none
    | _ => none

def aresultL (P : Program) (c : Cfg) : List ResultVar → Option (List AV)
  | [] => some []
  | x :: r => match aresult1 P c x, aresultL P c r with
    | some y, some ys => some (y :: ys)
    | _, _ => none

def aresults (P : Program) (c : Cfg) (rs : List ResultVar) : Option AV :=
  match aresultL P c rs with
  | some [x] => some x
  | some xs => some (.tup xs)
  | none => none

/-- Not the block of a range over a function. -/
def Ent.plain : Ent → Bool
  | .mark => false
  | _ => true
/-- The numbers of the caller stay; the one entity that is handed back takes the number kept free for it; all others are forgotten. -/
def rn (n0 k : Nat) (fresh : Option Nat) : Nat → Option Nat := fun id => if id < n0 then some id else if fresh = some id then some k else none

theorem rn_out {n0 k id : Nat} {fresh : Option Nat} (h : n0 ≤ id) (hne : fresh ≠ some id) : rn n0 k fresh id = none := by simp [rn, Nat.not_lt.2 h, hne]

def renF (f : Nat → Option Nat) (ws : Foot) : Foot := ws.map fun q => (q.1, q.2.ren f)


def ARet (P : Program) (rs : List ResultVar) (k : Nat) (σ0 : Nat → Ent) (n0 : Nat) (pre : Foot) (r : AV) (post : Foot) (c : Cfg) : Prop :=
  ∃ (r0' r' : AV) (ws : Foot) (fresh : Option Nat), aresults P c rs = some r0' ∧ AV.le r0' r' ∧ r = r'.ren (rn n0 k fresh) ∧ (∀ id, id < n0 → c.σ id = wr σ0 ws id) ∧ (∀ q ∈ ws, ∃ p ∈ pre, p.1 = q.1) ∧
    (match fresh with
      | some r0 => n0 ≤ r0 ∧ post = renF (rn n0 k (some r0)) ws ++ [(k, (c.σ r0).ren (rn n0 k (some r0)))] ∧ (c.σ r0).plain = true
      | none => post = renF (rn n0 k none) ws)

def aRet (P : Program) (rs : List ResultVar) (k : Nat) (σ0 : Nat → Ent) (n0 : Nat) (pre : Foot) (r : AV) (post : Foot) : AExit → Cfg → Prop
  | .exit _, _ => False
  | _, c => ARet P rs k σ0 n0 pre r post c

def resVal (a : Act) : ResultVar → Sem Value
  | .tmp t => pure (a.tmps.getD t undef)
  | .cell b t => do loadVar t (← asAddr (a.tmps.getD b undef))

theorem results_eq (fn : Func) (a : Act) : results fn a.tmps = (do let vs ← fn.results.mapM (resVal a); pure (if h : vs.size = 1 then vs[0] else .tuple vs)) := by
  unfold results
  have : (fun (x : ResultVar) => (match x with
    | .tmp t => pure (a.tmps.getD t undef)
    | .cell b t => do loadVar t (← asAddr (a.tmps.getD b undef)) : Sem Value)) = resVal a := by
    funext x; cases x <;> rfl
  rw [← this]
  rfl

@[congr] theorem aRet_congr {c c' : Cfg} (h : c = c') (P : Program) (rs : List ResultVar) (k : Nat) (σ0 : Nat → Ent) (n0 : Nat) (pre : Foot) (r : AV) (post : Foot) (e : AExit) : aRet P rs k σ0 n0 pre r post e c = aRet P rs k σ0 n0 pre r post e c' := by rw [h]

theorem aresult1_sound {P : Program} {W0 : World} {g : Ghost} {N : Nat} {c : Cfg} {a : Act} {w : World} (hS : SimA W0 g N c a w) {w2 : World} (hh : ∀ i b, g.loc i = some b → (c.σ i).plain = true → w2.heap[b]? = w.heap[b]?) {x : ResultVar} {y : AV} (h : aresult1 P c x = some y) :
    ∃ u, Rep g y u ∧ (resVal a x).run P w2 = .ok u w2 := by
  cases x with
  | tmp t =>
    simp only [aresult1, Option.some.injEq] at h
    subst h
    exact ⟨_, hS.slots t, rfl⟩
  | cell b t =>
    have hr := hS.slots b
    simp only [aresult1] at h
    split at h
    · rename_i i p q hb
      rw [hb] at hr
      split at h
      · rename_i bt x bb hbox
        split at h
        · rename_i y' hy
          split at h
          · rename_i hc
            cases h
            generalize hv : a.tmps.getD b undef = v at hr
            cases hr with
            | ptr _ _ _ blk hblk =>
              have key : ∃ v, Rep g x v ∧ w2.heap[blk]? = some (.cells v.cells bt (0, 0)) := by
                rcases evBox_sound hbox with ⟨_, he⟩ | ⟨_, he⟩
                · obtain ⟨b', v, h1, _, h3, h4, _⟩ := hS.sim.box i bt x he
                  rw [hblk] at h1; cases h1; exact ⟨v, h3, (hh i blk hblk (by rw [he]; rfl)).trans h4⟩
                · obtain ⟨b', v, h1, _, h3, h4, _⟩ := hS.sim.fbox i bt x he
                  rw [hblk] at h1; cases h1; exact ⟨v, h3, (hh i blk hblk (by rw [he]; rfl)).trans h4⟩
              obtain ⟨v, hrep, hheap⟩ := key
              obtain ⟨u, hu, _, hcu⟩ := hrep.get hy
              refine ⟨u, hu, ?_⟩
              have := run_loadAt (P := P) hu (tyInfo_sound hc.2).1 (b := blk) (off := q) (w := w2) fun j z hz => by
                rw [cell_of_row w2 blk _ _ _ _ hheap, ← Array.getElem?_toList, ← hc.1]
                exact hcu j z hz
              simp only [Instr.loadAt, Instr.sureAddr, Sem.run_bind, Sem.run_pure, Result.andThen_ok] at this
              simp only [resVal, hv, asAddr, Sem.run_bind, Sem.run_pure, Result.andThen_ok, this]
          · cases h
        · cases h
      · cases h
    · cases h

theorem aresultL_sound {P : Program} {W0 : World} {g : Ghost} {N : Nat} {c : Cfg} {a : Act} {w : World} (hS : SimA W0 g N c a w) {w2 : World} (hh : ∀ i b, g.loc i = some b → (c.σ i).plain = true → w2.heap[b]? = w.heap[b]?) : ∀ {rs : List ResultVar} {ys : List AV}, aresultL P c rs = some ys →
    ∃ us : List Value, us.length = ys.length ∧ (∀ (i : Nat) (x : AV) (v : Value), ys[i]? = some x → us[i]? = some v → Rep g x v) ∧ (rs.mapM (resVal a)).run P w2 = .ok us w2
  | [], ys, h => by simp [aresultL] at h; subst h; exact ⟨[], rfl, fun i x v h _ => by simp at h, by simp⟩
  | x :: r, ys, h => by
    simp only [aresultL] at h
    split at h
    · rename_i y ys' h1 h2
      cases h
      obtain ⟨u, hu, hrun⟩ := aresult1_sound hS hh h1
      obtain ⟨us, k1, k2, k3⟩ := aresultL_sound hS hh h2
      refine ⟨u :: us, by simp [k1], fun i x v hx hv => ?_, ?_⟩
      · cases i with
        | zero => simp at hx hv; subst hx; subst hv; exact hu
        | succ i => exact k2 i x v (by simpa using hx) (by simpa using hv)
      · simp only [List.mapM_cons, Sem.run_bind, Sem.run_pure]
        rw [hrun]
        simp only [Result.andThen_ok]
        rw [k3]
        rfl
    · cases h

theorem aresults_sound {P : Program} {W0 : World} {g : Ghost} {N : Nat} {c : Cfg} {a : Act} {w : World} (hS : SimA W0 g N c a w) {w2 : World} (hh : ∀ i b, g.loc i = some b → (c.σ i).plain = true → w2.heap[b]? = w.heap[b]?) {fn : Func} {y : AV} (h : aresults P c fn.results.toList = some y) :
    ∃ u, Rep g y u ∧ (results fn a.tmps).run P w2 = .ok u w2 := by
  unfold aresults at h
  have key : ∀ ys, aresultL P c fn.results.toList = some ys → ∃ us : List Value, us.length = ys.length ∧ (∀ (i : Nat) (x : AV) (v : Value), ys[i]? = some x → us[i]? = some v → Rep g x v) ∧
      (results fn a.tmps).run P w2 = .ok (if h : us.toArray.size = 1 then us.toArray[0] else .tuple us.toArray) w2 := by
    intro ys hys
    obtain ⟨us, k1, k2, k3⟩ := aresultL_sound hS hh hys
    refine ⟨us, k1, k2, ?_⟩
    rw [results_eq, Sem.run_bind, Array.mapM_eq_mapM_toList]
    simp only [Sem.run_map, k3, Result.andThen_ok, Sem.run_pure]
  split at h
  · rename_i x hx
    cases h
    obtain ⟨us, k1, k2, k3⟩ := key _ hx
    match us, k1 with
    | [u], _ => exact ⟨u, k2 0 _ _ rfl rfl, by simpa using k3⟩
  · rename_i xs hne hx
    cases h
    obtain ⟨us, k1, k2, k3⟩ := key _ hx
    have hl : us.length ≠ 1 := by
      intro he
      rw [k1] at he
      match xs, he with
      | [x], _ => exact hne x rfl
    refine ⟨.tuple us.toArray, .tup xs us k1 k2, ?_⟩
    rw [k3, dif_neg (by simpa using hl)]
  · cases h

theorem wr_at (i : Nat) : ∀ ws : Foot, ((∀ σ : Nat → Ent, wr σ ws i = σ i) ∧ (∀ f (σ : Nat → Ent), wr σ (renF f ws) i = σ i) ∧ ∀ q ∈ ws, q.1 ≠ i) ∨
    (∃ q ∈ ws, q.1 = i ∧ (∀ σ : Nat → Ent, wr σ ws i = q.2) ∧ ∀ f (σ : Nat → Ent), wr σ (renF f ws) i = q.2.ren f)
  | [] => .inl ⟨fun _ => rfl, fun _ _ => rfl, fun q hq => (by cases hq)⟩
  | p :: r => by
    have e1 : ∀ σ : Nat → Ent, wr σ (p :: r) = wr (upd σ p.1 p.2) r := fun _ => rfl
    have e2 : ∀ f (σ : Nat → Ent), wr σ (renF f (p :: r)) = wr (upd σ p.1 (p.2.ren f)) (renF f r) := fun _ _ => rfl
    rcases wr_at i r with ⟨h1, h2, h3⟩ | ⟨q, hq, h1, h2, h3⟩
    · by_cases hp : p.1 = i
      · refine .inr ⟨p, List.mem_cons_self .., hp, fun σ => by rw [e1, h1, hp, upd_same], fun f σ => by rw [e2, h2, hp, upd_same]⟩
      · refine .inl ⟨fun σ => by rw [e1, h1, upd_ne _ _ _ _ (Ne.symm hp)], fun f σ => by rw [e2, h2, upd_ne _ _ _ _ (Ne.symm hp)], fun q hq => ?_⟩
        rcases List.mem_cons.1 hq with rfl | hq
        · exact hp
        · exact h3 q hq
    · exact .inr ⟨q, List.mem_cons_of_mem _ hq, h1, fun σ => by rw [e1, h2], fun f σ => by rw [e2, h3]⟩

theorem wr_append (σ : Nat → Ent) (p q : Foot) : wr σ (p ++ q) = wr (wr σ p) q := by simp [wr, List.foldl_append]

/-- Behind the body: the caller's numbers, the one that is handed back; all others are forgotten. -/
theorem Sim.leave {W0 : World} {g g' : Ghost} {σ0 σ' : Nat → Ent} {n0 n' k : Nat} {w w' : World} (hS : Sim W0 g σ0 n0 w) (hS' : Sim W0 g' σ' n' w') (hle : g.le g') (hk : σ0 k = .none) (hkn : k < n0) {ws post : Foot} {fresh : Option Nat}
    (hag : ∀ id, id < n0 → σ' id = wr σ0 ws id) (hws : ∀ q ∈ ws, σ0 q.1 ≠ .none)
    (hpost : match fresh with
      | some r0 => n0 ≤ r0 ∧ post = renF (rn n0 k (some r0)) ws ++ [(k, (σ' r0).ren (rn n0 k (some r0)))]
      | none => post = renF (rn n0 k none) ws) :
    ∃ g2, g.le g2 ∧ Sim W0 g2 (wr σ0 post) n0 w' ∧ (∀ x v, Rep g' x v → Rep g2 (x.ren (rn n0 k fresh)) v) ∧ g2.G = g'.G ∧ (∀ id b, g2.blk id = some b → ∃ i0, rn n0 k fresh i0 = some id ∧ g'.blk i0 = some b) ∧ ∀ x v, Rep g x v → x.ren (rn n0 k fresh) = x := by
  let f := rn n0 k fresh
  have hfdef : f = rn n0 k fresh := rfl
  let pick : {α : Type} → (Nat → Option α) → Nat → Option α := fun F id => if id = k then fresh.bind F else if id < n0 then F id else none
  let g2 : Ghost := { G := g'.G, loc := pick g'.loc, row := pick g'.row, own := pick g'.own, mr := pick g'.mr }
  have hlive : ∀ id, σ0 id ≠ .none → id < n0 ∧ id ≠ k := fun id hid => by
    refine ⟨?_, fun e => hid (e ▸ hk)⟩
    rcases Nat.lt_or_ge id n0 with h | h
    · exact h
    · exact absurd (hS.bound id h) hid
  have hloc0 : ∀ id b, g.loc id = some b → σ0 id ≠ .none := fun id b hb hn => by rw [(hS.free id hn).1] at hb; cases hb
  have hrow0 : ∀ id u, g.row id = some u → σ0 id ≠ .none := fun id u hu hn => by rw [(hS.free id hn).2.1] at hu; cases hu
  have hmr0 : ∀ id u, g.mr id = some u → σ0 id ≠ .none := fun id u hu hn => by rw [(hS.free id hn).2.2.2] at hu; cases hu
  have hk' : σ' k = .none := by
    rw [hag k hkn]
    rcases wr_at k ws with ⟨h1, _⟩ | ⟨q, hq, h1, _⟩
    · rw [h1]; exact hk
    · exact absurd (h1 ▸ hk) (hws q hq)
  obtain ⟨kl, kr, ko, km⟩ := hS'.free k hk'
  have hfresh_ge : ∀ r0, fresh = some r0 → n0 ≤ r0 := fun r0 hr => by subst hr; exact hpost.1
  have f_old : ∀ id, id < n0 → f id = some id := fun id h => by simp [f, rn, h]
  have f_fresh : ∀ r0, fresh = some r0 → f r0 = some k := fun r0 hr => by simp only [f, rn, if_neg (Nat.not_lt.2 (hfresh_ge r0 hr)), hr, if_true]
  have f_inv : ∀ id j, f id = some j → (id < n0 ∧ j = id) ∨ (fresh = some id ∧ j = k) := by
    intro id j hj
    simp only [f, rn] at hj
    split at hj
    · rename_i h; cases hj; exact .inl ⟨h, rfl⟩
    · split at hj
      · rename_i h; cases hj; exact .inr ⟨h, rfl⟩
      · cases hj
  have pick_old : ∀ {α : Type} (F : Nat → Option α) id, id < n0 → id ≠ k → pick F id = F id := fun F id h1 h2 => by simp only [pick, if_neg h2, if_pos h1]
  have pick_fresh : ∀ {α : Type} (F : Nat → Option α) r0, fresh = some r0 → pick F k = F r0 := fun F r0 hr => by simp [pick, hr]
  have pick_hi : ∀ {α : Type} (F : Nat → Option α) id, n0 ≤ id → pick F id = none := fun F id h => by simp only [pick, if_neg (show id ≠ k by omega), if_neg (Nat.not_lt.2 h)]
  have pick_none : ∀ {α : Type} (F : Nat → Option α), fresh = none → pick F k = none := fun F h => by simp [pick, h]
  have carry : ∀ {α : Type} (F : Nat → Option α), F k = none → ∀ id j, f id = some j → ∀ b, F id = some b → pick F j = some b := by
    intro α F hFk id j hj b hb
    rcases f_inv id j hj with ⟨h1, rfl⟩ | ⟨h1, rfl⟩
    · have hne : j ≠ k := fun e => by rw [e, hFk] at hb; cases hb
      rw [pick_old F j h1 hne]; exact hb
    · rw [pick_fresh F id h1]; exact hb
  have rep2 : ∀ x v, Rep g' x v → Rep g2 (x.ren f) v := fun x v h => Rep.ren (g := g') (g2 := g2) (fun b o u h => h) (carry _ kl) (carry _ kr) (carry _ km) h
  have rep_id : ∀ x v, Rep g x v → x.ren f = x := fun x v h => Rep.ren_id (fun id b hb => f_old id (hlive id (hloc0 id b hb)).1) (fun id u hu => f_old id (hlive id (hrow0 id u hu)).1) (fun id u hu => f_old id (hlive id (hmr0 id u hu)).1) h
  have hle2 : g.le g2 := by
    refine ⟨fun b o v h => hle.G b o v h, fun id b hb => ?_, fun id u hu => ?_, fun id u hu => ?_⟩
    · obtain ⟨h1, h2⟩ := hlive id (hloc0 id b hb)
      exact (pick_old g'.loc id h1 h2).trans (hle.loc id b hb)
    · obtain ⟨h1, h2⟩ := hlive id (hrow0 id u hu)
      obtain ⟨u', k1, k2⟩ := hle.row id u hu
      exact ⟨u', (pick_old g'.row id h1 h2).trans k1, k2⟩
    · obtain ⟨h1, h2⟩ := hlive id (hmr0 id u hu)
      obtain ⟨u', k1, k2⟩ := hle.mr id u hu
      exact ⟨u', (pick_old g'.mr id h1 h2).trans k1, k2⟩
  -- what stands at a number behind the call
  have at_k : fresh = none → wr σ0 post k = .none := by
    intro hfr
    subst hfr
    have hp : post = renF (rn n0 k none) ws := hpost
    rw [hp]
    rcases wr_at k ws with ⟨_, h2, _⟩ | ⟨q, hq, h1, _⟩
    · rw [h2]; exact hk
    · exact absurd (h1 ▸ hk) (hws q hq)
  have at_ks : ∀ r0, fresh = some r0 → wr σ0 post k = (σ' r0).ren f := by
    intro r0 hfr
    subst hfr
    rw [hpost.2, wr_append]
    simp [wr, upd_same, hfdef]
  have at_old : ∀ id, id < n0 → id ≠ k → wr σ0 post id = (σ' id).ren f := by
    intro id hid hne
    have base : wr σ0 post id = wr σ0 (renF f ws) id := by
      cases fresh with
      | none => simp only at hpost; rw [hpost]
      | some r0 => rw [hpost.2, wr_append]; simp [wr, upd_ne _ _ _ _ hne, hfdef]
    rcases wr_at id ws with ⟨h1, h2, _⟩ | ⟨q, hq, h1, h2, h3⟩
    · rw [base, h2, hag id hid, h1, (hS.ents id).ren_id rep_id]
    · rw [base, h3, hag id hid, h2]
  have at_hi : ∀ id, n0 ≤ id → wr σ0 post id = .none := by
    intro id hid
    rw [wr_other]
    · exact hS.bound id hid
    · intro q hq e
      have hws' : ∀ q ∈ renF f ws, q.1 < n0 := fun q hq => by
        obtain ⟨p, hp, rfl⟩ := List.mem_map.1 hq
        exact (hlive p.1 (hws p hp)).1
      cases fresh with
      | none => simp only at hpost; rw [hpost] at hq; have := hws' q hq; omega
      | some r0 =>
        rw [hpost.2] at hq
        rcases List.mem_append.1 hq with hq | hq
        · have := hws' q hq; omega
        · simp at hq; subst hq; simp at e; omega
  have blk2 : ∀ id b, g2.blk id = some b → ∃ i0, f i0 = some id ∧ g'.blk i0 = some b := by
    intro id b hb
    by_cases hik : id = k
    · subst hik
      cases hfr : fresh with
      | none => simp [Ghost.blk, g2, pick_none _ hfr] at hb
      | some r0 =>
        refine ⟨r0, f_fresh r0 hfr, ?_⟩
        simpa only [Ghost.blk, g2, pick_fresh _ r0 hfr] using hb
    · by_cases hid : id < n0
      · refine ⟨id, f_old id hid, ?_⟩
        simpa only [Ghost.blk, g2, pick_old _ id hid hik] using hb
      · simp [Ghost.blk, g2, pick_hi _ id (Nat.not_lt.1 hid)] at hb
  refine ⟨g2, hle2, ⟨hS'.below, hS'.imm, at_hi, fun id => ?_, fun i j b hi hj => ?_, fun i b hi => ?_⟩, rep2, rfl, blk2, rep_id⟩
  · rcases Nat.lt_or_ge id n0 with hid | hid
    · by_cases hik : id = k
      · subst hik
        cases hfr : fresh with
        | none => rw [at_k hfr]; exact ⟨pick_none _ hfr, pick_none _ hfr, pick_none _ hfr, pick_none _ hfr⟩
        | some r0 => rw [at_ks r0 hfr]; exact (hS'.ents r0).ren rfl (pick_fresh _ r0 hfr) (pick_fresh _ r0 hfr) (pick_fresh _ r0 hfr) (pick_fresh _ r0 hfr) rep2
      · rw [at_old id hid hik]; exact (hS'.ents id).ren rfl (pick_old _ id hid hik) (pick_old _ id hid hik) (pick_old _ id hid hik) (pick_old _ id hid hik) rep2
    · rw [at_hi id hid]; exact ⟨pick_hi _ id hid, pick_hi _ id hid, pick_hi _ id hid, pick_hi _ id hid⟩
  · obtain ⟨i0, a1, a2⟩ := blk2 i b hi
    obtain ⟨j0, b1, b2⟩ := blk2 j b hj
    have := hS'.sep i0 j0 b a2 b2
    subst this
    rw [a1] at b1; injection b1
  · obtain ⟨i0, a1, a2⟩ := blk2 i b hi
    exact hS'.fresh i0 b a2

/-- A block that no number holds may be turned. -/
theorem Sim.putObj {W0 : World} {g : Ghost} {σ : Nat → Ent} {n : Nat} {w : World} (h : Sim W0 g σ n w) {r : Nat} {o : Obj} (h1 : W0.heap.size ≤ r) (h2 : ∀ i, g.blk i ≠ some r) (h3 : ∀ o, g.G r o = none) : Sim W0 g σ n (w.putObj r o) where
  below := ⟨h.below.os, h.below.tape, h.below.output, by simpa using h.below.size, fun b hb => by rw [World.putObj_heap_other (by omega)]; exact h.below.block b hb⟩
  imm := fun b o' v hv => by
    have hb : b ≠ r := fun e => by rw [e, h3] at hv; cases hv
    have := h.imm b o' v hv
    unfold World.cell? at this ⊢
    simp only [World.putObj_heap_other hb]
    exact this
  bound := h.bound
  ents := fun id => (h.ents id).same g.le_refl rfl rfl rfl rfl fun b hb => ⟨World.putObj_heap_other (fun e => h2 id (e ▸ hb)), fun _ => rfl⟩
  sep := h.sep
  fresh := fun i b hb => by simpa using h.fresh i b hb

theorem leaves_marks {P : Program} {fn : Func} {tmps : Array Value} {R : Ending → World → Prop} {W0 : World} {g : Ghost} {σ : Nat → Ent} {n : Nat} : ∀ (L : List (Nat × Nat)) (w : World), (L.map (·.2)).Nodup → (∀ p ∈ L, w.heap[p.2]? = some (.deferred (some []))) → Sim W0 g σ n w →
    (∀ p ∈ L, W0.heap.size ≤ p.2 ∧ (∀ i, g.blk i ≠ some p.2) ∧ ∀ o, g.G p.2 o = none) →
    (∀ w2, Sim W0 g σ n w2 → (∀ b, b ∉ L.map (·.2) → w2.heap[b]? = w.heap[b]?) → ∃ v, (results fn tmps).run P w2 = .ok v w2 ∧ R (.returned v) w2) →
    LeavesInM Fence.wide 0 P fn tmps R (L.map mkMark) .returning w
  | [], w, _, _, hS, _, h => h w hS fun _ _ => rfl
  | p :: L, w, hn, ho, hS, hf, h => by
    obtain ⟨f1, f2, f3⟩ := hf p (List.mem_cons_self ..)
    simp only [List.map_cons, List.nodup_cons] at hn
    refine ⟨by simp, .inl ⟨p.2, w.putObj p.2 (.deferred none), rfl, run_takeDeferred (ho p (List.mem_cons_self ..)), ?_⟩⟩
    refine leaves_marks L _ hn.2 (fun q hq => ?_) (hS.putObj f1 f2 f3) (fun q hq => hf q (List.mem_cons_of_mem _ hq)) fun w2 hS2 hw2 => ?_
    · rw [World.putObj_heap_other fun e => hn.1 (List.mem_map.2 ⟨q, hq, e⟩)]
      exact ho q (List.mem_cons_of_mem _ hq)
    · refine h w2 hS2 fun b hb => ?_
      simp only [List.map_cons, List.mem_cons, not_or] at hb
      rw [hw2 b hb.2, World.putObj_heap_other hb.1]

/-- **From the walk of the body to the contract.** -/
theorem ACall.of_body {P : Program} {f : FuncId} {fn : Func} {body : Code} {args : List AV} {k : Nat} {pre post : Foot} {r : AV} (hmix : P.follows .mixedOrders = true) (hf : P.funcs[f]? = some fn) (hb : fn.body = some body)
    (hname : (fn.name == "runtime.NumGoroutine") = false) {N : Nat} (hN : fn.ntmps = N) (hok : codeOK N body = true) {rs : List ResultVar} (hrs : fn.results.toList = rs) (hargs : args.length ≤ N) (hpre : ∀ p ∈ pre, p.2 ≠ .none) (hpost : ∀ q ∈ post, q.1 = k ∨ ∃ p ∈ pre, p.1 = q.1)
    (h : ∀ (σ : Nat → Ent) (n : Nat), (∀ p ∈ pre, σ p.1 = p.2) → (∀ p ∈ pre, p.1 < n) → σ k = .none → k < n → (∀ id, n ≤ id → σ id = .none) → aw P N body (aRet P rs k σ n pre r post) ⟨initS args, σ, n⟩) :
    ACall P f args k pre r post := by
  refine ⟨by simp [callable, hf, hb, hname], hpre, hpost, fun W0 g σ n w vals hS hl hv hk hkn hp => ?_⟩
  have hpn : ∀ p ∈ pre, p.1 < n := fun p hpm => by
    rcases Nat.lt_or_ge p.1 n with h' | h'
    · exact h'
    · exact absurd ((hp p hpm).symm.trans (hS.bound p.1 h')) (hpre p hpm)
  have haw := h σ n hp hpn hk hkn hS.bound
  subst hN
  let a : Act := { tmps := vals.toArray ++ Array.replicate (fn.ntmps - vals.toArray.size) undef, defers := [] }
  have hSA : SimA W0 g fn.ntmps ⟨initS args, σ, n⟩ a w := by
    refine ⟨hS, by simp [a]; omega, fun t => ?_⟩
    show Rep g (args.getD t (.tup [])) (a.tmps.getD t undef)
    by_cases ht : t < args.length
    · have ht' : t < vals.length := by omega
      have := hv t args[t] vals[t] (List.getElem?_eq_getElem ht) (List.getElem?_eq_getElem ht')
      have e1 : args.getD t (.tup []) = args[t] := by simp [List.getD, List.getElem?_eq_getElem ht]
      have e2 : a.tmps.getD t undef = vals[t] := by simp [a, Array.getElem?_append, ht']
      rw [e1, e2]; exact this
    · have e1 : args.getD t (.tup []) = .tup [] := by simp [List.getD, List.getElem?_eq_none (Nat.not_lt.1 ht)]
      have e2 : a.tmps.getD t undef = undef := by
        simp only [a]
        rw [Array.getD_eq_getD_getElem?, Array.getElem?_append]
        rw [if_neg (by simp; omega), Array.getElem?_replicate]
        split <;> rfl
      rw [e1, e2]
      exact .tup [] [] rfl fun i x v h _ => by simp at h
  refine callsIn_wide.1 (callsIn_of_wp_marks (n := 0) hf hb trivial (wpIn_mono (haw hok hmix none (.inl rfl) W0 g a w hSA) fun e a' w' hq => ?_))
  obtain ⟨c', g', hle, hS', hM, hq⟩ := hq
  have fin : ARet P rs k σ n pre r post c' → LeavesInM Fence.wide 0 P fn a'.tmps (fun e w' => ∃ u, e = .returned u ∧ ∃ g', g.le g' ∧ Sim W0 g' (wr σ post) n w' ∧ Rep g' r u) a'.defers .returning w' := by
    rintro ⟨r0', r', ws, fresh, h1, hrle, h2, h3, h4, h5⟩
    obtain ⟨M, hM1, hMn, hM2⟩ := hM
    have hD : a'.defers = M.map mkMark := by rw [hM1]; simp [a]
    have hws : ∀ q ∈ ws, σ q.1 ≠ .none := fun q hq => by obtain ⟨p, hp1, hp2⟩ := h4 q hq; rw [← hp2, hp p hp1]; exact hpre p hp1
    obtain ⟨g2, hle2, hS2, hrep, hG2, hblk, _⟩ := hS.leave hS'.sim hle hk hkn h3 hws (post := post) (fresh := fresh) (by
      cases fresh with
      | none => exact h5
      | some r0 => exact ⟨h5.1, h5.2.1⟩)
    -- no mark is among what the caller sees
    have hmk : ∀ p ∈ M, n ≤ p.1 ∧ fresh ≠ some p.1 := by
      intro p hpM
      obtain ⟨hj3, hj1, hj2⟩ := hM2 p hpM
      have hsj := hS'.sim.is_mark hj1 hj2
      refine ⟨?_, fun hf => ?_⟩
      · rcases Nat.lt_or_ge p.1 n with hjn | hjn
        · exfalso
          have := h3 p.1 hjn
          rw [hsj] at this
          rcases wr_at p.1 ws with ⟨k1, _⟩ | ⟨q, hq, k1, _⟩
          · rw [k1] at this
            exact hj3 (hS.has (by rw [← this]; simp))
          · exact hj3 (hS.has (by rw [← k1]; exact hws q hq))
        · exact hjn
      · subst hf
        have := h5.2.2
        rw [hsj] at this
        cases this
    have hM3 : ∀ p ∈ M, w'.heap[p.2]? = some (.deferred (some [])) ∧ ∀ o, g'.G p.2 o = none := fun p hpM => by
      obtain ⟨_, hj1, hj2⟩ := hM2 p hpM
      exact hS'.sim.mark_at hj1 (hS'.sim.is_mark hj1 hj2)
    have hMr : (M.map (·.2)).Nodup := by
      have : ∀ L : List (Nat × Nat), (∀ p ∈ L, g'.loc p.1 = some p.2) → (L.map (·.1)).Nodup → (L.map (·.2)).Nodup := by
        intro L
        induction L with
        | nil => intro _ _; exact List.nodup_nil
        | cons p L ih =>
          intro hl hn
          simp only [List.map_cons, List.nodup_cons] at hn ⊢
          refine ⟨fun hm => hn.1 ?_, ih (fun q hq => hl q (List.mem_cons_of_mem _ hq)) hn.2⟩
          obtain ⟨q, hq, he⟩ := List.mem_map.1 hm
          have h1 := hl p (List.mem_cons_self ..)
          have h2 := hl q (List.mem_cons_of_mem _ hq)
          rw [he] at h2
          have := hS'.sim.sep p.1 q.1 p.2 (Ghost.blk_loc h1) (Ghost.blk_loc h2)
          rw [this]; exact List.mem_map_of_mem hq
      exact this M (fun p hpM => (hM2 p hpM).2.1) hMn
    rw [hD]
    refine leaves_marks M w' hMr (fun p hpM => (hM3 p hpM).1) hS2 (fun p hpM => ?_) fun w2 hSw hw2 => ?_
    · obtain ⟨_, hj1, hj2⟩ := hM2 p hpM
      refine ⟨(hS'.sim.fresh p.1 p.2 (Ghost.blk_loc hj1)).1, fun i hi => ?_, fun o => by rw [hG2]; exact (hM3 p hpM).2 o⟩
      obtain ⟨i0, e1, e2⟩ := hblk i p.2 hi
      have := hS'.sim.sep i0 p.1 p.2 e2 (Ghost.blk_loc hj1)
      subst this
      obtain ⟨m1, m2⟩ := hmk p hpM
      rw [rn_out m1 m2] at e1
      cases e1
    · obtain ⟨u, hu, hrun⟩ := aresults_sound (fn := fn) hS' (w2 := w2) (fun i b hb hpl => hw2 b fun hm => by
        obtain ⟨p, hpM, rfl⟩ := List.mem_map.1 hm
        obtain ⟨_, hj1, hj2⟩ := hM2 p hpM
        have := hS'.sim.sep i p.1 p.2 (Ghost.blk_loc hb) (Ghost.blk_loc hj1)
        subst this
        rw [hS'.sim.is_mark hj1 hj2] at hpl
        cases hpl) (by rw [hrs]; exact h1)
      exact ⟨u, hrun, u, rfl, g2, hle2, hSw, by rw [h2]; exact hrep _ _ (hrle _ _ hu)⟩
  cases e with
  | normal => exact fin hq
  | ret => exact fin hq
  | exit id => exact hq.elim
  | goto => exact hq.elim
  | panic => exact hq.elim
  | outgrown => exact hq.elim

/-! ### A reading that says less -/
theorem AV.le_nils : AV.le .nils (.slice none []) := fun g v h => by
  cases h
  exact .slice none [] [] none 0 0 rfl (Nat.le_refl _) (by unfold maxLen; omega) (fun i x v h _ => by simp at h) (fun v hv => by simp at hv) (.inl rfl) (fun id hid => by cases hid)
theorem AV.le_own (o : Option Nat) (xs : List AV) : AV.le (.slice o xs) (.slice none xs) := fun g v h => by
  cases h with
  | slice own xs vs A c size hvl hc hm hr hs hcell hown => exact .slice none xs vs A c size hvl hc hm hr hs hcell (fun id hid => by cases hid)
inductive ALe : List AV → List AV → Prop where
  | nil : ALe [] []
  | cons {x y : AV} {xs ys : List AV} : AV.le x y → ALe xs ys → ALe (x :: xs) (y :: ys)
theorem ALe.at {xs ys : List AV} (h : ALe xs ys) : xs.length = ys.length ∧ ∀ (i : Nat) (y : AV), ys[i]? = some y → ∃ x, xs[i]? = some x ∧ AV.le x y := by
  induction h with
  | nil => exact ⟨rfl, fun i y hy => by simp at hy⟩
  | cons h _ ih =>
    refine ⟨by simp [ih.1], fun i y hy => ?_⟩
    cases i with
    | zero => simp at hy; subst hy; exact ⟨_, rfl, h⟩
    | succ i => simpa using ih.2 i y (by simpa using hy)

theorem AV.sub_tup {xs ys : List AV} (h : ALe xs ys) : AV.le (.tup xs) (.tup ys) := fun g v hr => by
  cases hr with
  | tup _ vs hvl hvr =>
    obtain ⟨h1, h2⟩ := h.at
    exact .tup ys vs (by rw [hvl, h1]) fun i y v hy hv => by obtain ⟨x, hx, hxy⟩ := h2 i y hy; exact hxy g v (hvr i x v hx hv)

section
variable {P : Program} {f : FuncId} {args args' : List AV} {k : Nat} {pre post : Foot} {r r' : AV}
theorem ACall.weaken (h : ACall P f args' k pre r post) (hle : ALe args args') : ACall P f args k pre r post := by
  obtain ⟨h1, h2, h3, h4⟩ := h
  obtain ⟨hl, hle⟩ := hle.at
  refine ⟨h1, h2, h3, fun W0 g σ n w vals hS hv hr hf hn hpre => h4 W0 g σ n w vals hS (by rw [hv, hl]) (fun i y v hy hv' => ?_) hf hn hpre⟩
  obtain ⟨x, hx, hxy⟩ := hle i y hy
  exact hxy g v (hr i x v hx hv')
theorem ACall.result (h : ACall P f args k pre r post) (hle : AV.le r r') : ACall P f args k pre r' post := by
  obtain ⟨h1, h2, h3, h4⟩ := h
  refine ⟨h1, h2, h3, fun W0 g σ n w vals hS hv hr hf hn hpre => (h4 W0 g σ n w vals hS hv hr hf hn hpre).mono ?_⟩
  rintro e w' ⟨u, rfl, g', hg, hS', hu⟩
  exact ⟨u, rfl, g', hg, hS', hle _ _ hu⟩
/-- Nil, as a row of its own with no element. -/
theorem ACall.nilrow {e : TypeId} {size : Nat} (h : ACall P f args k [] .nils []) : ACall P f args k [] (.slice (some k) []) [(k, .row e size 0)] := by
  obtain ⟨h1, h2, h3, h4⟩ := h
  refine ⟨h1, h2, fun q hq => by simp at hq; subst hq; exact .inl rfl, fun W0 g σ n w vals hS hv hr hf hn hpre => (h4 W0 g σ n w vals hS hv hr hf hn hpre).mono ?_⟩
  rintro e' w' ⟨u, rfl, g', hg, hS', hu⟩
  cases hu
  obtain ⟨g1, hle1, hS1, hrow1, _⟩ := hS'.addRow (k := k) (e := e) (size := size) (m := 0) (u := .slice none 0 0) (cells := []) hf hn (ownsR_nil w' _ e size) rfl (fun b hb => by simp [Value.ownBlock] at hb) (fun b hb => by simp [Value.ownBlock] at hb)
  refine ⟨.slice none 0 0, rfl, g1, hg.trans hle1, hS1, ?_⟩
  exact .slice (some k) [] [] none 0 0 rfl (Nat.le_refl _) (by unfold maxLen; omega) (fun i x v h _ => by simp at h) (fun v hv => by simp at hv) (.inl rfl) (fun id hid => by cases hid; exact ⟨_, hrow1, Nat.le_refl _, fun _ => rfl⟩)
/-- One argument is a slice without elements: it is what it is. -/
theorem ACall.empty {own : Option Nat} (h : ∀ A c, ACall P f [.lit (.slice A 0 c)] k pre r post) : ACall P f [.slice own []] k pre r post := by
  obtain ⟨h1, h2, h3, _⟩ := h none 0
  refine ⟨h1, h2, h3, fun W0 g σ n w vals hS hv hr hf hn hpre => ?_⟩
  match vals, hv with
  | [v], _ =>
    have := hr 0 _ v rfl rfl
    cases this with
    | slice _ _ vs A c size hvl hc hm _ hs hcell hown =>
      exact (h A c).2.2.2 W0 g σ n w [.slice A 0 c] hS rfl (fun i x v hx hv => by
        cases i with
        | zero => simp at hx hv; subst hx; subst hv; exact .lit _ rfl
        | succ i => simp at hx) hf hn hpre
end

theorem wrap_i64 {x : Int} (h1 : -9223372036854775808 ≤ x) (h2 : x ≤ 9223372036854775807) : IntKind.i64.wrap x = x := by rw [IntKind.wrap_i64]; omega

/-- evBin is unfolded last: rules on values of a known kind come first. -/
@[go_sem low] theorem evBuild_unf : type_of% @evBuild.eq_def := @evBuild.eq_def
@[go_sem low] theorem fillA_nil (place : Nat → Option (Nat × Nat)) (zs : List AV) : fillA place zs [] = some zs := by cases zs <;> rfl
@[go_sem low] theorem fillA_cons (place : Nat → Option (Nat × Nat)) (zs : List AV) (i : Nat) (z : AV) (r : List (Nat × AV)) : fillA place zs ((i, z) :: r) = match zs[i]? with
    | some y => if y.sz == z.sz && place i == some (AV.szl (zs.take i), z.sz) then fillA place (zs.set i z) r else none
    | none => none := by cases zs <;> rfl
@[go_sem low] theorem evBin_unf : type_of% @evBin.eq_def := @evBin.eq_def
attribute [go_sem] evalOp evPick evExtract evNilCheck evMakeFunc evNilEq nilAV isNilV evUn evConvert evIndex evFieldAddr evLoad evStore evAlloc evIndexAddr evBuildSlice evSlice evMakeSlice evLen evMin evMax evAppend evBuiltin evCall evBox evMrow evSliceBox evAppendZ evCopy evClear copySrc evEqA eqA eqAs bytesOf0 bytesOf0_map assertT aeval litBin litInt litUn litStr pickAV upd_same upd_ne sput bnd initS_zero initS_succ initS_nil wrap_i64 wr_nil wr_cons addT aresults aresultL aresult1

/-! ### Steps for a walk by hand -/
def pureOp : Op → Bool
  | .move _ | .assign _ | .pick .. | .extract .. | .nilCheck _ | .makeFunc .. | .binOp .. | .unOp .. | .convert .. | .index .. | .fieldAddr .. | .indexAddr .. | .build .. | .slice .. | .makeInterface .. | .typeAssert .. => true
  | .call { callee := .builtin .len, .. } | .call { callee := .builtin .min, .. } | .call { callee := .builtin .max, .. } => true
  | _ => false
def newOp : Op → Bool
  | .box .. | .alloc _ | .buildSlice .. | .makeSlice .. => true
  | _ => false

section
variable {P : Program} {ops : Array Oper} {m i n : Nat} {T : Trace} {k : Cfg → Trace → Prop} {op : Op} {ty : TypeId} {pos : String} {after : Array Edge} {r : List Oper} {s : Slots} {σ : Nat → Ent} {gd : Option (Nat × Bool)} {d : Option Tmp}

theorem go_pure {t : Tmp} {v : AV} (_hp : pureOp op = true) (he : evalOp P op s σ (m + i) = some ⟨[], v, []⟩) (h : aops P ops m r (i + 1) T k ⟨upd s t v, σ, n⟩) : aops P ops m (⟨some t, op, ty, pos, after, none⟩ :: r) i T k ⟨s, σ, n⟩ := by
  rw [aops_cons, wantedG_none, aguard_true]; exact ⟨_, evalOp_sound he, h⟩
theorem go_move {t : Tmp} {v : AV} {x : Operand} (he : aeval s x = v) (h : aops P ops m r (i + 1) T k ⟨upd s t v, σ, n⟩) : aops P ops m (⟨some t, .move x, ty, pos, after, none⟩ :: r) i T k ⟨s, σ, n⟩ := by
  subst he; exact go_pure rfl rfl h
theorem go_assign {t : Tmp} {v : AV} {x : Operand} (he : aeval s x = v) (h : aops P ops m r (i + 1) T k ⟨upd s t v, σ, n⟩) : aops P ops m (⟨some t, .assign x, ty, pos, after, none⟩ :: r) i T k ⟨s, σ, n⟩ := by
  subst he; exact go_pure rfl rfl h
theorem go_load {t : Tmp} {t' : TypeId} {x : Operand} {v : AV} {p : Nat × Ent} (he : evLoad P σ t' (aeval s x) = some ⟨[p], v, []⟩) (h : aops P ops m r (i + 1) ((i, [p], []) :: T) k ⟨upd s t v, σ, n⟩) : aops P ops m (⟨some t, .load t' x, ty, pos, after, none⟩ :: r) i T k ⟨s, σ, n⟩ := by
  have he' : evalOp P (.load t' x) s σ (m + i) = some ⟨[p], v, []⟩ := he
  rw [aops_cons, wantedG_none, aguard_true]; exact ⟨_, evalOp_sound he', h⟩
theorem go_loadv {t : Tmp} {t' : TypeId} {x : Operand} {v : AV} (he : evLoad P σ t' (aeval s x) = some ⟨[], v, []⟩) (h : aops P ops m r (i + 1) T k ⟨upd s t v, σ, n⟩) : aops P ops m (⟨some t, .load t' x, ty, pos, after, none⟩ :: r) i T k ⟨s, σ, n⟩ := by
  have he' : evalOp P (.load t' x) s σ (m + i) = some ⟨[], v, []⟩ := he
  rw [aops_cons, wantedG_none, aguard_true]; exact ⟨_, evalOp_sound he', h⟩
theorem go_new {t : Tmp} {v : AV} {q : Nat × Ent} (_hp : newOp op = true) (he : evalOp P op s σ (m + i) = some ⟨[], v, [q]⟩) (h : aops P ops m r (i + 1) ((i, [], [q]) :: T) k ⟨upd s t v, upd σ q.1 q.2, n⟩) : aops P ops m (⟨some t, op, ty, pos, after, none⟩ :: r) i T k ⟨s, σ, n⟩ := by
  rw [aops_cons, wantedG_none, aguard_true]; exact ⟨_, evalOp_sound he, h⟩
theorem go_read1 {t : Tmp} {v : AV} {p : Nat × Ent} (_hp : pureOp op = true) (he : evalOp P op s σ (m + i) = some ⟨[p], v, []⟩) (h : aops P ops m r (i + 1) ((i, [p], []) :: T) k ⟨upd s t v, σ, n⟩) : aops P ops m (⟨some t, op, ty, pos, after, none⟩ :: r) i T k ⟨s, σ, n⟩ := by
  rw [aops_cons, wantedG_none, aguard_true]; exact ⟨_, evalOp_sound he, h⟩
theorem go_rw1 {t : Tmp} {v : AV} {p q : Nat × Ent} (_hp : pureOp op = true) (he : evalOp P op s σ (m + i) = some ⟨[p], v, [q]⟩) (h : aops P ops m r (i + 1) ((i, [p], [q]) :: T) k ⟨upd s t v, upd σ q.1 q.2, n⟩) : aops P ops m (⟨some t, op, ty, pos, after, none⟩ :: r) i T k ⟨s, σ, n⟩ := by
  rw [aops_cons, wantedG_none, aguard_true]; exact ⟨_, evalOp_sound he, h⟩
theorem go_new1 {t : Tmp} {v : AV} {q : Nat × Ent} (_hp : pureOp op = true) (he : evalOp P op s σ (m + i) = some ⟨[], v, [q]⟩) (h : aops P ops m r (i + 1) ((i, [], [q]) :: T) k ⟨upd s t v, upd σ q.1 q.2, n⟩) : aops P ops m (⟨some t, op, ty, pos, after, none⟩ :: r) i T k ⟨s, σ, n⟩ := by
  rw [aops_cons, wantedG_none, aguard_true]; exact ⟨_, evalOp_sound he, h⟩
theorem go_appendz {t : Tmp} {x y : Operand} {t' tn : TypeId} {v : AV} {p q : Nat × Ent} (hne : (t' == tn) = false) (he : evAppendZ P σ t' tn (aeval s x) (aeval s y) = some ⟨[p], v, [q]⟩) (h : aops P ops m r (i + 1) ((i, [p], [q]) :: T) k ⟨upd s t v, upd σ q.1 q.2, n⟩) :
    aops P ops m (⟨some t, .call { callee := .builtin .append, args := #[x, y], argTypes := #[t', tn] }, ty, pos, after, none⟩ :: r) i T k ⟨s, σ, n⟩ := by
  have he' : evalOp P (.call { callee := .builtin .append, args := #[x, y], argTypes := #[t', tn] }) s σ (m + i) = some ⟨[p], v, [q]⟩ := by
    have : t' ≠ tn := by simpa using hne
    simp only [evalOp, evCall, evBuiltin, if_neg this]; exact he
  rw [aops_cons, wantedG_none, aguard_true]; exact ⟨_, evalOp_sound he', h⟩
theorem go_copy {t : Tmp} {x y : Operand} {t1 t2 : TypeId} {v : AV} {p q : Nat × Ent} (he : evCopy P σ t1 (aeval s x) (aeval s y) = some ⟨[p], v, [q]⟩) (h : aops P ops m r (i + 1) ((i, [p], [q]) :: T) k ⟨upd s t v, upd σ q.1 q.2, n⟩) :
    aops P ops m (⟨some t, .call { callee := .builtin .copy, args := #[x, y], argTypes := #[t1, t2] }, ty, pos, after, none⟩ :: r) i T k ⟨s, σ, n⟩ := by
  have he' : evalOp P (.call { callee := .builtin .copy, args := #[x, y], argTypes := #[t1, t2] }) s σ (m + i) = some ⟨[p], v, [q]⟩ := he
  rw [aops_cons, wantedG_none, aguard_true]; exact ⟨_, evalOp_sound he', h⟩
theorem go_copy0 {x y : Operand} {t1 t2 : TypeId} {v : AV} {p q : Nat × Ent} (he : evCopy P σ t1 (aeval s x) (aeval s y) = some ⟨[p], v, [q]⟩) (h : aops P ops m r (i + 1) ((i, [p], [q]) :: T) k ⟨s, upd σ q.1 q.2, n⟩) :
    aops P ops m (⟨none, .call { callee := .builtin .copy, args := #[x, y], argTypes := #[t1, t2] }, ty, pos, after, none⟩ :: r) i T k ⟨s, σ, n⟩ := by
  have he' : evalOp P (.call { callee := .builtin .copy, args := #[x, y], argTypes := #[t1, t2] }) s σ (m + i) = some ⟨[p], v, [q]⟩ := he
  rw [aops_cons, wantedG_none, aguard_true]; exact ⟨_, evalOp_sound he', h⟩
theorem go_clear0 {x : Operand} {t1 : TypeId} {v : AV} {p q : Nat × Ent} (he : evClear P σ t1 (aeval s x) = some ⟨[p], v, [q]⟩) (h : aops P ops m r (i + 1) ((i, [p], [q]) :: T) k ⟨s, upd σ q.1 q.2, n⟩) :
    aops P ops m (⟨none, .call { callee := .builtin .clear, args := #[x], argTypes := #[t1] }, ty, pos, after, none⟩ :: r) i T k ⟨s, σ, n⟩ := by
  have he' : evalOp P (.call { callee := .builtin .clear, args := #[x], argTypes := #[t1] }) s σ (m + i) = some ⟨[p], v, [q]⟩ := he
  rw [aops_cons, wantedG_none, aguard_true]; exact ⟨_, evalOp_sound he', h⟩
/-- An operation, by whatever law of its own. -/
theorem go_own {t : Tmp} {st : Step} (hg : ∀ o : Oper, o.op = op → Gives P o s σ (m + i) st) (h : aops P ops m r (i + 1) (addT i st T) k ⟨upd s t st.v, wr σ st.post, n⟩) : aops P ops m (⟨some t, op, ty, pos, after, none⟩ :: r) i T k ⟨s, σ, n⟩ := by
  rw [aops_cons, wantedG_none, aguard_true]; exact ⟨_, hg _ rfl, h⟩
theorem go_store {t' : TypeId} {x y : Operand} {p q : Nat × Ent} (he : evStore P σ t' (aeval s x) (aeval s y) = some ⟨[p], .tup [], [q]⟩) (h : aops P ops m r (i + 1) ((i, [p], [q]) :: T) k ⟨s, upd σ q.1 q.2, n⟩) : aops P ops m (⟨none, .store t' x y, ty, pos, after, none⟩ :: r) i T k ⟨s, σ, n⟩ := by
  have he' : evalOp P (.store t' x y) s σ (m + i) = some ⟨[p], .tup [], [q]⟩ := he
  rw [aops_cons, wantedG_none, aguard_true]; exact ⟨_, evalOp_sound he', h⟩
theorem go_append {t : Tmp} {x y : Operand} {t' : TypeId} {v : AV} {p q : Nat × Ent} (he : evAppend P σ (m + i) t' (aeval s x) (aeval s y) = some ⟨[p], v, [q]⟩) (h : aops P ops m r (i + 1) ((i, [p], [q]) :: T) k ⟨upd s t v, upd σ q.1 q.2, n⟩) :
    aops P ops m (⟨some t, .call { callee := .builtin .append, args := #[x, y], argTypes := #[t', t'] }, ty, pos, after, none⟩ :: r) i T k ⟨s, σ, n⟩ := by
  have he' : evalOp P (.call { callee := .builtin .append, args := #[x, y], argTypes := #[t', t'] }) s σ (m + i) = some ⟨[p], v, [q]⟩ := by
    simp only [evalOp, evCall, evBuiltin, if_true]; exact he
  rw [aops_cons, wantedG_none, aguard_true]; exact ⟨_, evalOp_sound he', h⟩
theorem go_append0 {t : Tmp} {x y : Operand} {t' : TypeId} {v : AV} {q : Nat × Ent} (he : evAppend P σ (m + i) t' (aeval s x) (aeval s y) = some ⟨[], v, [q]⟩) (h : aops P ops m r (i + 1) ((i, [], [q]) :: T) k ⟨upd s t v, upd σ q.1 q.2, n⟩) :
    aops P ops m (⟨some t, .call { callee := .builtin .append, args := #[x, y], argTypes := #[t', t'] }, ty, pos, after, none⟩ :: r) i T k ⟨s, σ, n⟩ := by
  have he' : evalOp P (.call { callee := .builtin .append, args := #[x, y], argTypes := #[t', t'] }) s σ (m + i) = some ⟨[], v, [q]⟩ := by
    simp only [evalOp, evCall, evBuiltin, if_true]; exact he
  rw [aops_cons, wantedG_none, aguard_true]; exact ⟨_, evalOp_sound he', h⟩
/-- A guarded operation: it is carried out, or it is not. -/
theorem go_guardT {g : Nat × Bool} (hw : wantedG ops (some g) s = some true) (h : aops P ops m (⟨d, op, ty, pos, after, none⟩ :: r) i T k ⟨s, σ, n⟩) : aops P ops m (⟨d, op, ty, pos, after, some g⟩ :: r) i T k ⟨s, σ, n⟩ := by
  rw [aops_cons] at h ⊢
  rw [wantedG_none, aguard_true] at h
  rw [hw, aguard_true]
  exact h
theorem go_guardF {g : Nat × Bool} {t : Tmp} (hw : wantedG ops (some g) s = some false) (h : aops P ops m r (i + 1) T k ⟨upd s t (.tup []), σ, n⟩) : aops P ops m (⟨some t, op, ty, pos, after, some g⟩ :: r) i T k ⟨s, σ, n⟩ := by
  rw [aops_cons, hw, aguard_false]; exact h
theorem wantedG_bool {j t : Nat} {want b : Bool} (hd : (ops[j]?).bind (·.dst) = some t) (hs : s t = .lit (.bool b)) : wantedG ops (some (j, want)) s = some (b == want) := by
  simp [wantedG, hd, hs]
theorem wantedG_tup {j t : Nat} {want : Bool} (hd : (ops[j]?).bind (·.dst) = some t) (hs : s t = .tup []) : wantedG ops (some (j, want)) s = some false := by
  simp [wantedG, hd, hs]
theorem go_guard_in {j g : Nat} {want : Bool} {t : Tmp} (hd : (ops[j]?).bind (·.dst) = some g) (hs : s g = .lit (.bool want)) (h1 : aops P ops m (⟨some t, op, ty, pos, after, none⟩ :: r) i T k ⟨s, σ, n⟩) :
    aops P ops m (⟨some t, op, ty, pos, after, some (j, want)⟩ :: r) i T k ⟨s, σ, n⟩ := go_guardT (by rw [wantedG_bool hd hs]; simp) h1
theorem go_guard_out {j g : Nat} {want b : Bool} {t : Tmp} (hd : (ops[j]?).bind (·.dst) = some g) (hs : s g = .lit (.bool b)) (hb : b = !want) (h2 : aops P ops m r (i + 1) T k ⟨upd s t (.tup []), σ, n⟩) :
    aops P ops m (⟨some t, op, ty, pos, after, some (j, want)⟩ :: r) i T k ⟨s, σ, n⟩ := go_guardF (by rw [wantedG_bool hd hs, hb]; simp) h2
theorem go_guard_no {j g : Nat} {want : Bool} {t : Tmp} (hd : (ops[j]?).bind (·.dst) = some g) (hs : s g = .tup []) (h2 : aops P ops m r (i + 1) T k ⟨upd s t (.tup []), σ, n⟩) :
    aops P ops m (⟨some t, op, ty, pos, after, some (j, want)⟩ :: r) i T k ⟨s, σ, n⟩ := go_guardF (wantedG_tup hd hs) h2

/-- A call, by its contract. -/
theorem go_call {t : Tmp} {x : Operand} {args : Array Operand} {ts : Array TypeId} {f : FuncId} {caps : List AV} {pre post : Foot} {v : AV} (hx : aeval s x = .fn f caps) (hc : ACall P f (args.toList.map (aeval s) ++ caps) (m + i) pre v post) (hp : ∀ p ∈ pre, σ p.1 = p.2)
    (h : aops P ops m r (i + 1) (addT i ⟨pre, v, post⟩ T) k ⟨upd s t v, wr σ post, n⟩) : aops P ops m (⟨some t, .call { callee := .value x, args := args, argTypes := ts }, ty, pos, after, none⟩ :: r) i T k ⟨s, σ, n⟩ := by
  rw [aops_cons, wantedG_none, aguard_true]
  exact astepX_call (c := ⟨s, σ, n⟩) rfl hx hc hp h
theorem go_nil {c : Cfg} (h : k c T) : aops P ops m [] i T k c := h
end

section
variable {P : Program} {N : Nat} {Q : AExit → Cfg → Prop} {c : Cfg}
theorem go_then {next : Cfg → Prop} (h : next c) : aThen next Q .normal c := h
theorem go_then_exit {next : Cfg → Prop} {id : Nat} (h : Q (.exit id) c) : aThen next Q (.exit id) c := h
theorem go_then_ret {next : Cfg → Prop} (h : Q .ret c) : aThen next Q .ret c := h
theorem go_blk {id : Nat} (h : Q .normal c) : aBlk id Q .normal c := h
theorem go_blk_ret {id : Nat} (h : Q .ret c) : aBlk id Q .ret c := h
theorem go_blk_here {id : Nat} (h : Q .normal c) : aBlk id Q (.exit id) c := by simp [aBlk]; exact h
theorem go_blk_there {id id' : Nat} (hne : (id' == id) = false) (h : Q (.exit id') c) : aBlk id Q (.exit id') c := by
  simp at hne
  simp [aBlk, hne]; exact h
theorem go_kreg {ops : Array Oper} {T : Trace} (h : Q .normal c) : kReg ops false Q c T := by rw [kReg_false]; exact h
theorem go_kreg0 {ops : Array Oper} (h : Q .normal c) : kReg ops true Q c [] := by rw [kReg_true]; exact ⟨trivial, h⟩
theorem go_kreg1 {ops : Array Oper} {x : Nat × Foot × Foot} (h : Q .normal c) : kReg ops true Q c [x] := by rw [kReg_true, CF_one]; exact ⟨trivial, h⟩
theorem go_kregT {ops : Array Oper} {T : Trace} (hT : CF ops T) (h : Q .normal c) : kReg ops true Q c T := by rw [kReg_true]; exact ⟨hT, h⟩
end

/-! ### The end of a walk -/
theorem go_result {P : Program} {rs : List ResultVar} {k : Nat} {σ0 : Nat → Ent} {n0 : Nat} {pre : Foot} {r r' : AV} {c : Cfg} (h1 : aresults P c rs = some r') (h2 : r'.ren (rn n0 k none) = r) (h3 : ∀ id, id < n0 → c.σ id = σ0 id) : aRet P rs k σ0 n0 pre r [] .ret c :=
  ⟨r', r', [], none, h1, AV.le_refl _, h2.symm, h3, (fun q hq => (by cases hq)), rfl⟩
/-- The same, its result read as saying less. -/
theorem go_resultL {P : Program} {rs : List ResultVar} {k : Nat} {σ0 : Nat → Ent} {n0 : Nat} {pre : Foot} {r r0 r' : AV} {c : Cfg} (h1 : aresults P c rs = some r0) (hle : AV.le r0 r') (h2 : r'.ren (rn n0 k none) = r) (h3 : ∀ id, id < n0 → c.σ id = σ0 id) : aRet P rs k σ0 n0 pre r [] .ret c :=
  ⟨r0, r', [], none, h1, hle, h2.symm, h3, (fun q hq => (by cases hq)), rfl⟩
/-- One row, or one box, of the callee's own is handed back. -/
theorem go_result1 {P : Program} {rs : List ResultVar} {k r0 : Nat} {σ0 : Nat → Ent} {n0 : Nat} {pre : Foot} {r r' : AV} {E E' : Ent} {c : Cfg} (h1 : aresults P c rs = some r') (h0 : n0 ≤ r0) (h2 : r'.ren (rn n0 k (some r0)) = r) (h3 : ∀ id, id < n0 → c.σ id = σ0 id)
    (h4 : c.σ r0 = E') (h5 : E'.ren (rn n0 k (some r0)) = E) (h6 : E'.plain = true := by rfl) : aRet P rs k σ0 n0 pre r [(k, E)] .ret c :=
  ⟨r', r', [], some r0, h1, AV.le_refl _, h2.symm, h3, (fun q hq => (by cases hq)), h0, by rw [h4, h5]; rfl, by rw [h4]; exact h6⟩
/-- Boxes of the caller's are left as 'ws' says. -/
theorem go_resultW {P : Program} {rs : List ResultVar} {k : Nat} {σ0 : Nat → Ent} {n0 : Nat} {pre post : Foot} {r r' : AV} {c : Cfg} (ws : Foot) (h1 : aresults P c rs = some r') (h2 : r'.ren (rn n0 k none) = r) (h3 : ∀ id, id < n0 → c.σ id = wr σ0 ws id)
    (h4 : ∀ q ∈ ws, ∃ p ∈ pre, p.1 = q.1) (h5 : renF (rn n0 k none) ws = post) : aRet P rs k σ0 n0 pre r post .ret c :=
  ⟨r', r', ws, none, h1, AV.le_refl _, h2.symm, h3, h4, h5.symm⟩

theorem ren_byteAV (f : Nat → Option Nat) (b : UInt8) : (byteAV b).ren f = byteAV b := rfl
theorem renl_bytes (f : Nat → Option Nat) (bs : List UInt8) : AV.renl f (bs.map byteAV) = bs.map byteAV := by
  rw [AV.renl_map, List.map_map]; rfl
theorem renl_append (f : Nat → Option Nat) (xs ys : List AV) : AV.renl f (xs ++ ys) = AV.renl f xs ++ AV.renl f ys := by simp only [AV.renl_map, List.map_append]
@[go_sem] theorem ent_ren_box (f : Nat → Option Nat) (t : TypeId) (x : AV) : (Ent.box t x).ren f = .box t (x.ren f) := rfl
@[go_sem] theorem ent_ren_fbox (f : Nat → Option Nat) (t : TypeId) (x : AV) : (Ent.fbox t x).ren f = .fbox t (x.ren f) := rfl
@[go_sem] theorem ent_ren_row (f : Nat → Option Nat) (e : TypeId) (size n : Nat) : (Ent.row e size n).ren f = .row e size n := rfl
@[go_sem] theorem ent_ren_glob (f : Nat → Option Nat) (h : Nat) (x : AV) : (Ent.glob h x).ren f = .glob h (x.ren f) := rfl
@[go_sem] theorem ent_ren_mrow (f : Nat → Option Nat) (ver : Nat) (e : TypeId) (size : Nat) (xs : List AV) : (Ent.mrow ver e size xs).ren f = .mrow ver e size (AV.renl f xs) := rfl
theorem rn_lt {n0 k id : Nat} {fresh : Option Nat} (h : id < n0) : rn n0 k fresh id = some id := by simp [rn, h]
theorem rn_fresh {n0 k id : Nat} (h : n0 ≤ id) : rn n0 k (some id) id = some k := by simp [rn, Nat.not_lt.2 h]
@[go_sem] theorem isAgg_agg (xs : List AV) : (AV.agg xs).isAgg = true := rfl
@[go_sem] theorem isAgg_any : AV.any.isAgg = false := rfl
@[go_sem] theorem isAgg_lit (v : Value) : (AV.lit v).isAgg = false := rfl
@[go_sem] theorem isAgg_nils : AV.nils.isAgg = false := rfl
@[go_sem] theorem isAgg_slice (o : Option Nat) (xs : List AV) : (AV.slice o xs).isAgg = false := rfl
@[go_sem] theorem isAgg_ptr (i : Nat) (p : List Nat) (q : Nat) : (AV.ptr i p q).isAgg = false := rfl
@[go_sem] theorem isAgg_view (x : AV) : (AV.view x).isAgg = false := rfl
@[go_sem] theorem isAgg_fn (f : FuncId) (xs : List AV) : (AV.fn f xs).isAgg = false := rfl
@[go_sem] theorem isAgg_tup (xs : List AV) : (AV.tup xs).isAgg = false := rfl
@[go_sem] theorem isAgg_clip (xs : List AV) : (AV.clip xs).isAgg = false := rfl
@[go_sem] theorem isAgg_ms (a b c d e : Nat) : (AV.ms a b c d e).isAgg = false := rfl
@[go_sem] theorem isAgg_mp (a b : Nat) (p : List Nat) (q : Nat) : (AV.mp a b p q).isAgg = false := rfl
@[go_sem] theorem isAgg_bs (a : Nat) (p : List Nat) (b c d : Nat) : (AV.bs a p b c d).isAgg = false := rfl
@[go_sem] theorem isAgg_iface (t : TypeId) (x : AV) : (AV.iface t x).isAgg = false := rfl
attribute [go_sem] AV.get AV.offs AV.put evBox AV.sz AV.szl AV.cell AV.celll byteAV_sz byteAV_cell if_pos AV.elems AV.ren renl_bytes renl_append AV.renl rn_lt rn_fresh renF

theorem bytes_all1 (bs : List UInt8) : (bs.map byteAV).all (fun x => x.sz == 1) = true := by
  rw [List.all_eq_true]; intro x hx; obtain ⟨b, _, rfl⟩ := List.mem_map.1 hx; rfl
theorem bytes_all2 (bs : List UInt8) : (bs.map byteAV).all (fun x => x.sz == 1 && x.cell) = true := by
  rw [List.all_eq_true]; intro x hx; obtain ⟨b, _, rfl⟩ := List.mem_map.1 hx; rfl
end Go.Ab

/- What a loop may begin with: a nil slice is a row of one's own; a reading may say less. A call whose arguments say more than its contract asks. -/
namespace Go.Ab
open Go.RowKit

theorem SimA.at_eq {W0 : World} {g : Ghost} {N : Nat} {s : Slots} {σ : Nat → Ent} {n : Nat} {a : Act} {w : World} (h : SimA W0 g N ⟨s, σ, n⟩ a w) {t : Tmp} {x : AV} (ht : s t = x) : Rep g x (a.tmps.getD t undef) := by
  have := h.slots t
  simp only at this
  rw [ht] at this; exact this

/-- Another reading of one slot. -/
theorem SimA.turnSlot {W0 : World} {g g' : Ghost} {N : Nat} {s : Slots} {σ σ' : Nat → Ent} {n n' : Nat} {a : Act} {w : World} (h : SimA W0 g N ⟨s, σ, n⟩ a w) (hle : g.le g') (hS : Sim W0 g' σ' n' w) {t : Tmp} {y : AV} (hy : Rep g' y (a.tmps.getD t undef)) : SimA W0 g' N ⟨upd s t y, σ', n'⟩ a w := by
  refine ⟨hS, h.size, fun t' => ?_⟩
  by_cases htt : t' = t
  · subst htt; simp only [upd_same]; exact hy
  · simp only [upd_ne _ _ _ _ htt]; exact (h.slots t').mono hle

theorem ALoop.nilrow {P : Program} {N : Nat} {b : Code} {Q : AExit → Cfg → Prop} {s : Slots} {σ : Nat → Ent} {n : Nat} (t : Tmp) (e : TypeId) (size : Nat) (ht : s t = .nils)
    (h : aw P N b Q ⟨upd s t (.slice (some n) []), upd σ n (.row e size 0), n + 1⟩) : aw P N b Q ⟨s, σ, n⟩ := by
  refine go_ghost (fun W0 g a w hS => ?_) h
  have hf : σ n = .none := hS.sim.bound n (Nat.le_refl _)
  obtain ⟨g1, hle1, hS1, hrow1, _⟩ := (hS.sim.more (n' := n + 1) (Nat.le_succ n)).addRow (k := n) (e := e) (size := size) (m := 0) (u := .slice none 0 0) (cells := []) hf (Nat.lt_succ_self n) (ownsR_nil w _ e size) rfl (fun b hb => by simp [Value.ownBlock] at hb) (fun b hb => by simp [Value.ownBlock] at hb)
  refine ⟨g1, hle1, hS.turnSlot hle1 hS1 ?_⟩
  have hr := hS.at_eq ht
  generalize a.tmps.getD t undef = v at hr
  cases hr
  exact .slice (some n) [] [] none 0 0 rfl (Nat.le_refl _) (by unfold maxLen; omega) (fun i x v h _ => by simp at h) (fun v hv => by simp at hv) (.inl rfl) (fun id hid => by cases hid; exact ⟨_, hrow1, Nat.le_refl _, fun _ => rfl⟩)

/-- A row that is written no more: its slice in a slot is read as what it holds. -/
theorem go_freeze {P : Program} {N : Nat} {b : Code} {Q : AExit → Cfg → Prop} {s : Slots} {σ : Nat → Ent} {n : Nat} (t : Tmp) {id ver size : Nat} {e : TypeId} {xs : List AV} {k : Nat} (hσ : σ id = .mrow ver e size xs) (ht : s t = .ms id ver size 0 k) (hk : k = xs.length)
    (h : aw P N b Q ⟨upd s t (.slice (some id) xs), upd σ id (.row e size xs.length), n⟩) : aw P N b Q ⟨s, σ, n⟩ := by
  refine go_ghost (fun W0 g a w hS => ?_) h
  subst hk
  obtain ⟨g2, hle2, hS2, u2, vs, k1, k2, k3, k4, k5, k6, k7, k8⟩ := hS.sim.freezeM hσ
  exact ⟨g2, hle2, hS.turnSlot hle2 hS2 ((hS.at_eq ht).msFrozen hle2 k1 k3 k2 k4 k5 k6 k8)⟩
/-- A slot says less. -/
theorem go_less {P : Program} {N : Nat} {b : Code} {Q : AExit → Cfg → Prop} {s : Slots} {σ : Nat → Ent} {n : Nat} (t : Tmp) {x y : AV} (ht : s t = x) (hxy : AV.le x y) (h : aw P N b Q ⟨upd s t y, σ, n⟩) : aw P N b Q ⟨s, σ, n⟩ :=
  go_ghost (fun W0 g a w hS => ⟨g, g.le_refl, hS.turnSlot g.le_refl hS.sim (hxy _ _ (hS.at_eq ht))⟩) h

theorem ALoop.less {P : Program} {N : Nat} {b : Code} {Q : AExit → Cfg → Prop} {s : Slots} {σ : Nat → Ent} {n : Nat} (t : Tmp) {x y : AV} (ht : s t = x) (hxy : AV.le x y) (h : aw P N b Q ⟨upd s t y, σ, n⟩) : aw P N b Q ⟨s, σ, n⟩ := go_less t ht hxy h

/-- What holds behind a block, or behind the first of two pieces: the rest is walked once, from there. -/
theorem go_after {P : Program} {N : Nat} {b : Code} {Q : AExit → Cfg → Prop} {next : Cfg → Prop} {c : Cfg} {id : Nat} (I : Cfg → Prop) (h1 : aw P N b (aBlk id (aThen I Q)) c) (h2 : ∀ c, I c → next c) : aw P N b (aBlk id (aThen next Q)) c := by
  refine go_mid h1 fun e c' hq => ?_
  cases e with
  | normal => exact h2 _ hq
  | ret => exact hq
  | exit id' =>
    simp only [aBlk] at hq ⊢
    split at hq
    · rename_i h; rw [if_pos h]; exact h2 _ hq
    · rename_i h; rw [if_neg h]; exact hq
theorem go_after0 {P : Program} {N : Nat} {b : Code} {Q : AExit → Cfg → Prop} {next : Cfg → Prop} {c : Cfg} (I : Cfg → Prop) (h1 : aw P N b (aThen I Q) c) (h2 : ∀ c, I c → next c) : aw P N b (aThen next Q) c := by
  refine go_mid h1 fun e c' hq => ?_
  cases e with
  | normal => exact h2 _ hq
  | ret => exact hq
  | exit id' => exact hq

section
variable {P : Program} {ops : Array Oper} {m i n : Nat} {T : Trace} {k : Cfg → Trace → Prop} {op : Op} {ty : TypeId} {pos : String} {after : Array Edge} {r : List Oper} {s : Slots} {σ : Nat → Ent} {gd : Option (Nat × Bool)} {d : Option Tmp}
theorem go_cut {N : Nat} {c : Code} {Q : AExit → Cfg → Prop} (ts : List Nat) (h : ∀ s', (∀ t ∈ ts, s' t = s t) → aw P N c Q ⟨s', σ, n⟩) : aw P N c Q ⟨s, σ, n⟩ := h s fun _ _ => rfl
theorem go_guard_off {j g : Nat} {want : Bool} {t : Tmp} (hd : (ops[j]?).bind (·.dst) = some g) (hs : s g = .lit (.bool (!want))) (h2 : aops P ops m r (i + 1) T k ⟨upd s t (.tup []), σ, n⟩) :
    aops P ops m (⟨some t, op, ty, pos, after, some (j, want)⟩ :: r) i T k ⟨s, σ, n⟩ := go_guard_out hd hs rfl h2
theorem AV.le_slice {xs ys : List AV} (o : Option Nat) (h : ALe xs ys) : AV.le (.slice o xs) (.slice none ys) := fun g v hr => by
  obtain ⟨h1, h2⟩ := h.at
  cases hr with
  | slice own _ vs A c size hvl hc hm hr hs hcell hown =>
    rw [h1] at hvl hc hcell ⊢
    exact .slice none ys vs A c size hvl hc hm (fun i y v hy hv => by obtain ⟨x, hx, hxy⟩ := h2 i y hy; exact hxy g v (hr i x v hx hv)) hs hcell (fun id hid => by cases hid)
theorem go_callw {t : Tmp} {x : Operand} {args : Array Operand} {ts : Array TypeId} {f : FuncId} {caps : List AV} {pre post : Foot} {v : AV} {as : List AV} (hc : ACall P f as (m + i) pre v post) (hx : aeval s x = .fn f caps) (hle : ALe (args.toList.map (aeval s) ++ caps) as) (hp : ∀ p ∈ pre, σ p.1 = p.2)
    (h : aops P ops m r (i + 1) (addT i ⟨pre, v, post⟩ T) k ⟨upd s t v, wr σ post, n⟩) : aops P ops m (⟨some t, .call { callee := .value x, args := args, argTypes := ts }, ty, pos, after, none⟩ :: r) i T k ⟨s, σ, n⟩ :=
  go_call hx (hc.weaken hle) hp h
end

@[go_sem] theorem getz (a : AV) (l : List AV) : (a :: l)[0]? = some a := rfl
@[go_sem] theorem byteAV_agg0 (b : UInt8) : (byteAV b).isAgg = false := rfl
theorem i64_and127 (x : Int) (h0 : 0 ≤ x) (h1 : x ≤ 9223372036854775807) : bits .and .i64 x 127 = x % 128 :=
  bits_mask .i64 63 (by decide) (fun n a b => wrap_i64 (by omega) (by omega)) 7 (by decide) x h0 (by omega)
theorem i64_or128 (x : Int) (h0 : 0 ≤ x) (h1 : x < 128) : bits .or .i64 x 128 = x + 128 := by
  have h : bits .or .i64 128 x = 128 + x := bits_join .i64 63 (by decide) (fun n a b => wrap_i64 (by omega) (by omega)) 7 128 x (by decide) (by decide) (by decide) h0 (by omega) (by omega)
  have c : bits .or .i64 x 128 = bits .or .i64 128 x := by simp [bits, BitVec.or_comm]
  rw [c, h]; omega
theorem u8_and127 (x : Int) (h0 : 0 ≤ x) (h1 : x < 256) : bits .and .u8 x 127 = x % 128 := bits_mask .u8 8 (by decide) wraps_u8 7 (by decide) x h0 h1

/-! ### What is made to be written -/
/-- The operation with this number makes something that is written later. -/
inductive Mut (id : Nat) : Prop where
  | mk

def evMut (P : Program) (s : Slots) (id : Nat) : Op → Option Step
  | .buildSlice t len parts => match sliceInfo P t with
    | some (e, size, _, z) => match fillA (fun i => some (i * size, size)) (List.replicate len z) (parts.toList.map fun p => (p.1, aeval s p.2)) with
      | some ys => if len * size ≤ 16777216 ∧ ys.length = len ∧ ys.all (fun x => x.sz == size) = true then some ⟨[], .ms id 0 size 0 len, [(id, .mrow 0 e size ys)]⟩ else none
      | none => none
    | none => none
  | .makeSlice t x y => match sliceInfo P t, aeval s x, aeval s y with
    | some (e, size, bytes, z), .lit (.int _ n), .lit (.int _ c) => if 0 ≤ n ∧ n ≤ c ∧ c ≤ 140737488355328 ∧ bytes * c ≤ 140737488355328 then some ⟨[], .ms id 0 size 0 n.toNat, [(id, .mrow 0 e size (List.replicate n.toNat z))]⟩ else none
    | _, _, _ => none
  | .convert src dst x => match aeval s x, sliceTy P dst with
    | .lit (.string b), some e => if strTy P src = true ∧ byteTy P e = true ∧ sizeIs P e 1 = true ∧ b.size ≤ 9223372036854775807 then some ⟨[], .ms id 0 1 0 b.size, [(id, .mrow 0 e 1 (b.data.toList.map byteAV))]⟩ else none
    | _, _ => none
  | .slice t x lo hi none => match aeval s x, ptrArr P t with
    | .ptr i p q, some (n, _, size) => match bnd s 0 lo, bnd s n hi with
      | some l, some h => if l ≤ h ∧ h ≤ n ∧ (l = 0 ∨ l < n) ∧ n ≤ 9223372036854775807 then some ⟨[], .bs i p l (q + l * size) (h - l), []⟩ else none
      | _, _ => none
    | _, _ => none
  | _ => none

theorem evMut_sound {P : Program} {s : Slots} {σ : Nat → Ent} {id : Nat} {o : Oper} {st : Step} (h : evMut P s id o.op = some st) : Gives P o s σ id st := by
  cases ho : o.op <;> rw [ho] at h <;> simp only [evMut] at h <;> try (cases h; done)
  case buildSlice t len parts =>
    split at h
    · rename_i ht
      split at h
      · rename_i hf
        split at h
        · rename_i hc
          cases h
          obtain ⟨k1, k2, k3, k4, k5, k6⟩ := sliceInfo_sound ht
          exact .mk0 (holds_buildSliceM ho k1 k2 k4 k6 k5 hc.1 hf hc.2.1 hc.2.2)
        · cases h
      · cases h
    · cases h
  case makeSlice t x y =>
    split at h
    · rename_i ht hx hy
      split at h
      · rename_i hc
        cases h
        obtain ⟨k1, k2, k3, k4, k5, k6⟩ := sliceInfo_sound ht
        exact .mk0 (holds_makeSliceM ho k1 k2 k3 k4 k5 k6 hx hy hc.1 hc.2.1 hc.2.2.1 hc.2.2.2)
      · cases h
    · cases h
  case convert src dst x =>
    split at h
    · rename_i hx hd
      split at h
      · rename_i hc
        cases h
        exact .mk0 (holds_convert_str_bytes ho hc.1 hd hc.2.1 hc.2.2.1 hx (by unfold maxLen; omega))
      · cases h
    · cases h
  case slice t x lo hi mx =>
    cases mx with
    | some m => cases h
    | none =>
      simp only at h
      split at h
      · rename_i hx ht
        split at h
        · rename_i hl hh
          split at h
          · rename_i hc
            cases h
            exact .mk0 (holds_slice_box ho ht hx hl hh hc.1 hc.2.1 hc.2.2.1 (by unfold maxLen; omega))
          · cases h
        · cases h
      · cases h
attribute [go_sem] evMut

section
variable {P : Program} {ops : Array Oper} {m i n : Nat} {T : Trace} {k : Cfg → Trace → Prop} {op : Op} {ty : TypeId} {pos : String} {after : Array Edge} {r : List Oper} {s : Slots} {σ : Nat → Ent}
theorem go_mut {t : Tmp} {v : AV} {q : Nat × Ent} (_hM : Mut (m + i)) (he : evMut P s (m + i) op = some ⟨[], v, [q]⟩) (h : aops P ops m r (i + 1) ((i, [], [q]) :: T) k ⟨upd s t v, upd σ q.1 q.2, n⟩) : aops P ops m (⟨some t, op, ty, pos, after, none⟩ :: r) i T k ⟨s, σ, n⟩ :=
  go_own (st := ⟨[], v, [q]⟩) (fun o ho => evMut_sound (by rw [ho]; exact he)) h
theorem go_mutP {t : Tmp} {v : AV} (_hM : Mut (m + i)) (he : evMut P s (m + i) op = some ⟨[], v, []⟩) (h : aops P ops m r (i + 1) T k ⟨upd s t v, σ, n⟩) : aops P ops m (⟨some t, op, ty, pos, after, none⟩ :: r) i T k ⟨s, σ, n⟩ :=
  go_own (st := ⟨[], v, []⟩) (fun o ho => evMut_sound (by rw [ho]; exact he)) h
end

/-- The end of a walk: its result read as saying less. -/
theorem go_resultI {P : Program} {rs : List ResultVar} {k : Nat} {σ0 : Nat → Ent} {n0 : Nat} {pre : Foot} {r r0 : AV} {c : Cfg} (h1 : aresults P c rs = some r0) (hle : AV.le r0 r) (h2 : r.ren (rn n0 k none) = r) (h3 : ∀ id, id < n0 → c.σ id = σ0 id) : aRet P rs k σ0 n0 pre r [] .ret c :=
  go_resultL h1 hle h2 h3
/-- Boxes of the caller's are left as 'ws' says, and the result is read as saying less. -/
theorem go_resultWI {P : Program} {rs : List ResultVar} {k : Nat} {σ0 : Nat → Ent} {n0 : Nat} {pre post : Foot} {r r0 : AV} {c : Cfg} (ws : Foot) (h1 : aresults P c rs = some r0) (hle : AV.le r0 r) (h2 : r.ren (rn n0 k none) = r) (h3 : ∀ id, id < n0 → c.σ id = wr σ0 ws id)
    (h4 : ∀ q ∈ ws, ∃ p ∈ pre, p.1 = q.1) (h5 : renF (rn n0 k none) ws = post) : aRet P rs k σ0 n0 pre r post .ret c :=
  ⟨r0, r, ws, none, h1, hle, h2.symm, h3, h4, h5.symm⟩
theorem AV.le_slices {o : Option Nat} {xs ys : List AV} (h : xs = ys) : AV.le (.slice o xs) (.slice none ys) := by subst h; exact AV.le_own _ _
theorem AV.le_nilsE {ys : List AV} (h : ys = []) : AV.le .nils (.slice none ys) := by subst h; exact AV.le_nils0
theorem AV.le_clipE {xs ys : List AV} (h : xs = ys) : AV.le (.clip xs) (.slice none ys) := by subst h; exact AV.le_clip _

/-! ### Rows of bytes -/
@[go_sem] theorem szl_bytes (bs : List UInt8) : AV.szl (bs.map byteAV) = bs.length := by
  rw [AV.szl_uniform _ 1 fun x hx => by obtain ⟨b, _, rfl⟩ := List.mem_map.1 hx; rfl]; simp
@[go_sem] theorem szl_take_bytes (bs : List UInt8) (i : Nat) : AV.szl ((bs.map byteAV).take i) = min i bs.length := by rw [← List.map_take, szl_bytes, List.length_take]
attribute [go_sem] AV.szl_append
@[go_sem] theorem take_len_map {α β : Type} (f : α → β) (l : List α) : (l.map f).take l.length = l.map f := List.take_of_length_le (by simp)
theorem set_bytes (bs : List UInt8) (i : Nat) (b : UInt8) : (bs.map byteAV).set i (byteAV b) = (bs.set i b).map byteAV := by rw [List.map_set]
/-- A byte that is any integer of its kind. -/
theorem byte_of_wf {a : Int} (h : (Lit.int .u8 a).wf = true) : ∃ b : UInt8, AV.lit (.int .u8 a) = byteAV b ∧ a = (b.toNat : Int) := by
  have hw : IntKind.u8.min ≤ a ∧ a ≤ IntKind.u8.max := by simpa [Lit.wf] using h
  have e1 : IntKind.u8.min = 0 := by decide
  have e2 : IntKind.u8.max = 255 := by decide
  obtain ⟨n, rfl⟩ := Int.eq_ofNat_of_zero_le (show 0 ≤ a by omega)
  refine ⟨UInt8.ofNat n, ?_, ?_⟩
  · simp only [byteAV]
    rw [UInt8.toNat_ofNat', Nat.mod_eq_of_lt (by omega)]
  · rw [UInt8.toNat_ofNat', Nat.mod_eq_of_lt (by omega)]
end Go.Ab

/- From a law's contract to what its statement asks of a call; what a slice of bytes or of integers that came in reads as. -/
namespace Go.Ab
open Go.RowKit

/-- All that was there, at the call. -/
def g0 (w : World) : Ghost := { G := fun b o => if b < w.heap.size then w.cell? ⟨b, o, none⟩ else none, loc := fun _ => none, row := fun _ => none, own := fun _ => none, mr := fun _ => none }

theorem sim0 (w : World) : Sim w (g0 w) (fun _ => .none) 1 w where
  below := Below.refl _ _
  imm := fun b o v h => by
    simp only [g0] at h
    split at h
    · exact h
    · cases h
  bound := fun _ _ => rfl
  ents := fun _ => ⟨rfl, rfl, rfl, rfl⟩
  sep := fun i j b h _ => by simp [g0, Ghost.blk] at h
  fresh := fun i b h => by simp [g0, Ghost.blk] at h

theorem ACall.walk {P : Program} {f : FuncId} {args : List AV} {v : Value} (h : ACall P f args 0 [] (.lit v) []) (w : World) (vals : List Value) (hl : vals.length = args.length)
    (hr : ∀ (i : Nat) (x : AV) (u : Value), args[i]? = some x → vals[i]? = some u → Rep (g0 w) x u) : Calls P f vals.toArray w fun e w' => e = .returned v ∧ Below w.heap.size w w' := by
  refine (h.2.2.2 w (g0 w) _ 1 w vals (sim0 w) hl hr rfl (by omega) (fun p hp => by cases hp)).mono ?_
  rintro e w' ⟨u, rfl, g', _, hS, hu⟩
  rw [rep_lit_inv hu]
  exact ⟨rfl, hS.below⟩

inductive Reps (g : Ghost) : List AV → List Value → Prop where
  | nil : Reps g [] []
  | cons {x : AV} {v : Value} {xs : List AV} {vs : List Value} : Rep g x v → Reps g xs vs → Reps g (x :: xs) (v :: vs)
theorem Reps.at {g : Ghost} {xs : List AV} {vs : List Value} (h : Reps g xs vs) : vs.length = xs.length ∧ ∀ (i : Nat) (x : AV) (u : Value), xs[i]? = some x → vs[i]? = some u → Rep g x u := by
  induction h with
  | nil => exact ⟨rfl, fun i x u h _ => by simp at h⟩
  | cons h _ ih =>
    refine ⟨by simp [ih.1], fun i x u hx hu => ?_⟩
    cases i with
    | zero => simp at hx hu; subst hx; subst hu; exact h
    | succ i => exact ih.2 i x u (by simpa using hx) (by simpa using hu)
/-- A slice that came in, over cells that hold integers of one kind. -/
theorem rep_ints {w : World} {k : IntKind} {a : Option Addr} {len cap : Nat} {zs : List Int} (h : (a = none ∧ len = 0 ∧ cap = 0 ∧ zs = []) ∨ ∃ x, a = some x ∧ len ≤ cap ∧ cap ≤ maxLen ∧ zs.length = cap ∧ ∀ i, i < zs.length → w.cell? (x.add i) = some (.int k (zs.getD i 0))) :
    Rep (g0 w) (.slice none ((zs.take len).map fun z => .lit (.int k z))) (.slice a len cap) := by
  rcases h with ⟨rfl, rfl, rfl, rfl⟩ | ⟨x, rfl, h1, h2, h3, h4⟩
  · exact .slice none [] [] none 0 1 rfl (by simp) (by unfold maxLen; omega) (fun i x v h _ => by simp at h) (fun v hv => by simp at hv) (.inl rfl) (fun id hid => by cases hid)
  · have hlen : ((zs.take len).map fun z => AV.lit (.int k z)).length = len := by simp; omega
    have := Rep.slice (g := g0 w) none ((zs.take len).map fun z => AV.lit (.int k z)) ((zs.take len).map fun z => Value.int k z) (some x) cap 1 (by simp) (by rw [hlen]; exact h1) h2
      (fun i y v hy hv => by
        rw [List.getElem?_map] at hy hv
        cases hz : (zs.take len)[i]? with
        | none => rw [hz] at hy; cases hy
        | some z => rw [hz] at hy hv; cases hy; cases hv; exact .lit _ rfl) (fun v hv => by obtain ⟨z, _, rfl⟩ := List.mem_map.1 hv; rfl)
      (by
        by_cases h0 : len = 0
        · exact .inl (by rw [hlen, h0])
        · right
          obtain ⟨b, off, spot⟩ := x
          have hc := h4 0 (by omega)
          have hspot : spot = none := by simpa [Addr.add] using World.cell?_spot hc
          subst hspot
          have hb : b < w.heap.size := by
            have hc0 : w.cell? ⟨b, off, none⟩ = some (.int k (zs.getD 0 0)) := by simpa [Addr.add] using hc
            rcases Nat.lt_or_ge b w.heap.size with h | h
            · exact h
            · exfalso
              simp [World.cell?, Array.getElem?_eq_none h] at hc0
          refine ⟨b, off, rfl, fun j u hu => ?_⟩
          have hfl : flat ((zs.take len).map fun z => Value.int k z) = (zs.take len).map fun z => Value.int k z := by
            generalize zs.take len = l
            induction l with
            | nil => rfl
            | cons z r ih => rw [List.map_cons, flat_cons, ih]; rfl
          rw [hfl, List.getElem?_map] at hu
          cases hz : (zs.take len)[j]? with
          | none => rw [hz] at hu; cases hu
          | some z =>
            rw [hz] at hu; cases hu
            have hj : j < zs.length := by
              have := (List.getElem?_eq_some_iff.1 hz).1
              simp at this; omega
            have hzz : zs.getD j 0 = z := by
              rw [List.getElem?_take] at hz
              split at hz
              · simp [List.getD, hz]
              · cases hz
            simp only [g0, if_pos hb]
            have := h4 j hj
            rw [hzz] at this
            rw [Addr.add_lit] at this
            exact this) (fun id hid => by cases hid)
    rw [hlen] at this
    exact this

theorem rep_len {w : World} {k : IntKind} {a : Option Addr} {len cap : Nat} {zs : List Int} (h : (a = none ∧ len = 0 ∧ cap = 0 ∧ zs = []) ∨ ∃ x, a = some x ∧ len ≤ cap ∧ cap ≤ maxLen ∧ zs.length = cap ∧ ∀ i, i < zs.length → w.cell? (x.add i) = some (.int k (zs.getD i 0))) :
    (zs.take len).length ≤ 9223372036854775807 := by
  rcases h with ⟨_, _, _, rfl⟩ | ⟨x, _, h1, h2, h3, _⟩
  · simp
  · unfold maxLen at h2
    rw [List.length_take]; omega

end Go.Ab

/- What an argument of whatever data type reads as. -/
namespace Go.Ab
open Go.RowKit Go.ChangeShapes

def layB (P : Program) : List Field → Nat → Nat → Bool
  | [], off, tot => off == tot
  | f :: fs, off, tot => f.offset == off && layB P fs (off + P.cellsOf f.type) tot

def dataTy (P : Program) : Nat → TypeId → Bool
  | 0, _ => false
  | m + 1, t => match P.underlying t with
    | some .bool => P.cellsOf t == 1
    | some (.int _) => P.cellsOf t == 1
    | some .string => P.cellsOf t == 1
    | some (.slice e) => dataTy P m e && decide (0 < P.cellsOf e) && P.cellsOf t == 1
    | some (.array n e) => dataTy P m e && P.cellsOf t == n * P.cellsOf e
    | some (.struct fs) => (fs.toList.all fun f => dataTy P m f.type) && layB P fs.toList 0 (P.cellsOf t)
    | _ => false

/-- A tree of a data type. -/
def tyAV (P : Program) : Nat → TypeId → AV → Prop
  | 0, _, _ => False
  | m + 1, t, x => match P.underlying t with
    | some .bool => ∃ b, x = .lit (.bool b)
    | some (.int k) => ∃ n, x = .lit (.int k n) ∧ (Lit.int k n).wf = true
    | some .string => ∃ l : List UInt8, x = .lit (.string ⟨l.toArray⟩) ∧ l.length ≤ 9223372036854775807
    | some (.slice e) => ∃ xs, x = .slice none xs ∧ xs.length ≤ 9223372036854775807 ∧ ∀ y ∈ xs, tyAV P m e y
    | some (.array n e) => ∃ xs, x = .agg xs ∧ xs.length = n ∧ ∀ y ∈ xs, tyAV P m e y
    | some (.struct fs) => ∃ xs, x = .agg xs ∧ xs.length = fs.size ∧ ∀ (i : Nat) (f : Field) (y : AV), fs[i]? = some f → xs[i]? = some y → tyAV P m f.type y
    | _ => False

def aggT (P : Program) (t : TypeId) : Bool :=
  match P.underlying t with
  | some (.array _ _) | some (.struct _) => true
  | _ => false

theorem range_mapM_cells {w : World} {a : Addr} {n : Nat} {cs : List Value} (h : (List.range n).mapM (fun i => w.cell? (a.add i)) = some cs) : cs.length = n ∧ ∀ (i : Nat) (v : Value), cs[i]? = some v → w.cell? (a.add i) = some v := by
  have hl := mapM_some_length h
  refine ⟨by simpa using hl, fun i v hv => ?_⟩
  have hi : i < n := by have := (List.getElem?_eq_some_iff.1 hv).1; simp at hl; omega
  have := mapM_some_get h i i (by simp [hi])
  rw [this]; exact hv

theorem flat_pieces {cs : List Value} {size : Nat} : ∀ (vs : List Value), cs.length = vs.length * size → (∀ (i : Nat) (v : Value), vs[i]? = some v → v.cells.toList = (cs.drop (i * size)).take size) → flat vs = cs
  | [], hl, _ => by
    simp at hl
    subst hl; rfl
  | v :: vs, hl, h => by
    have h0 := h 0 v rfl
    simp only [Nat.zero_mul, List.drop_zero] at h0
    rw [flat_cons, h0]
    simp only [List.length_cons, Nat.add_mul, Nat.one_mul] at hl
    have ih := flat_pieces (cs := cs.drop size) (size := size) vs (by rw [List.length_drop]; omega) fun i u hu => by
      have := h (i + 1) u (by simpa using hu)
      rw [this, List.drop_drop]
      congr 2
      rw [Nat.add_mul]; omega
    rw [ih, List.take_append_drop]

theorem flat_fields {P : Program} {cs : List Value} : ∀ (fs : List Field) (vs : List Value) (off : Nat), layB P fs off cs.length = true → vs.length = fs.length → off ≤ cs.length → (∀ (i : Nat) (f : Field) (v : Value), fs[i]? = some f → vs[i]? = some v → v.cells.toList = (cs.drop f.offset).take (P.cellsOf f.type) ∧ v.cells.size = P.cellsOf f.type) → flat vs = cs.drop off
  | [], vs, off, hl, hv, hle, _ => by
    cases vs with
    | nil =>
      simp only [layB, beq_iff_eq] at hl
      rw [hl, List.drop_length]; rfl
    | cons => simp at hv
  | f :: fs, vs, off, hl, hv, hle, h => by
    cases vs with
    | nil => simp at hv
    | cons v vs =>
      simp only [layB, Bool.and_eq_true, beq_iff_eq] at hl
      obtain ⟨h1, h2⟩ := h 0 f v rfl rfl
      have hsz : ((cs.drop off).take (P.cellsOf f.type)).length = P.cellsOf f.type := by rw [← hl.1, ← h1, Array.length_toList, h2]
      rw [List.length_take, List.length_drop] at hsz
      have ih := flat_fields (P := P) (cs := cs) fs vs (off + P.cellsOf f.type) hl.2 (by simpa using hv) (by omega) fun i g u hg hu => h (i + 1) g u (by simpa using hg) (by simpa using hu)
      rw [flat_cons, h1, hl.1, ih, ← List.drop_drop, List.take_append_drop]

theorem list_of {α : Type} {Q : Nat → α → Prop} : ∀ n, (∀ i, i < n → ∃ p, Q i p) → ∃ l : List α, l.length = n ∧ ∀ (i : Nat) (p : α), l[i]? = some p → Q i p
  | 0, _ => ⟨[], rfl, fun i p h => by simp at h⟩
  | n + 1, h => by
    obtain ⟨l, hl, hq⟩ := list_of n fun i hi => h i (by omega)
    obtain ⟨p, hp⟩ := h n (by omega)
    refine ⟨l ++ [p], by simp [hl], fun i q hq' => ?_⟩
    by_cases hi : i < l.length
    · rw [List.getElem?_append_left hi] at hq'; exact hq i q hq'
    · rw [List.getElem?_append_right (by omega)] at hq'
      have : i - l.length = 0 := by
        have := (List.getElem?_eq_some_iff.1 hq').1
        simp at this; omega
      rw [this] at hq'
      simp at hq'
      subst hq'
      have : i = n := by omega
      rw [this]; exact hp

section
variable {H : Type} {enc : TypeId × Value → H} {P : Program} {w : World} {base : Nat} {spare : Nat → Bool} {held : Bool}

theorem trod_rep : ∀ (m : Nat) (t : TypeId), dataTy P m t = true → ∀ (fuel : Nat) (cs : List Value) (x : DataW H × List MemPlace), DataW.trod enc P w base spare held fuel t cs = some x →
    ∃ (p : AV × Value), p.2.cells.toList = cs ∧ Rep (g0 w) p.1 p.2 ∧ tyAV P m t p.1 ∧ p.2.cells.size = P.cellsOf t ∧ valAgg p.2 = aggT P t ∧ valTup p.2 = false
  | 0, _, h => by simp [dataTy] at h
  | m + 1, t, h => by
    intro fuel cs x hx
    unfold dataTy at h
    unfold tyAV aggT
    split at h
    · rename_i ht
      obtain ⟨b, rfl, rfl⟩ := DataW.trod_bool ht hx
      simp only [ht]
      exact ⟨(.lit (.bool b), .bool b), rfl, .lit _ rfl, ⟨b, rfl⟩, by simpa [Value.cells] using (beq_iff_eq.1 h).symm, rfl, rfl⟩
    · rename_i k ht
      obtain ⟨n, rfl, rfl, hw⟩ := DataW.trod_int ht hx
      simp only [ht]
      exact ⟨(.lit (.int k n), .int k n), rfl, .lit _ rfl, ⟨n, rfl, hw⟩, by simpa [Value.cells] using (beq_iff_eq.1 h).symm, rfl, rfl⟩
    · rename_i ht
      obtain ⟨s, rfl, rfl, hw⟩ := DataW.trod_string ht hx
      simp only [ht]
      refine ⟨(.lit (.string s), .string s), rfl, .lit _ rfl, ⟨s.data.toList, by simp, ?_⟩, by simpa [Value.cells] using (beq_iff_eq.1 h).symm, rfl, rfl⟩
      unfold maxLen at hw
      have : s.data.toList.length = s.size := by simp
      omega
    · rename_i e ht
      simp only [Bool.and_eq_true, decide_eq_true_eq, beq_iff_eq] at h
      obtain ⟨⟨h1, h2⟩, h3⟩ := h
      simp only [ht]
      rcases DataW.trod_slice ht hx with ⟨rfl, rfl⟩ | ⟨a, len, cap, elems, rest, n, _, rfl, rfl, hba, hlc, hcm, hel, hcell, _⟩
      · exact ⟨(.slice none [], .slice none 0 0), rfl, AV.le_nils0 _ _ .nils, ⟨[], rfl, by simp, fun y hy => by cases hy⟩, by simp [Value.cells, h3], rfl, rfl⟩
      · obtain ⟨l, hl, hq⟩ := list_of (Q := fun i (p : AV × Value) => Rep (g0 w) p.1 p.2 ∧ tyAV P m e p.1 ∧ p.2.cells.size = P.cellsOf e ∧ ∀ (j : Nat) (v : Value), p.2.cells.toList[j]? = some v → w.cell? ((a.add (i * P.cellsOf e)).add j) = some v) len fun i hi => by
          have hc := hcell i hi
          have hei : elems[i]? = some elems[i] := List.getElem?_eq_getElem (by omega)
          rw [hei] at hc
          simp only [Option.bind_eq_some_iff] at hc
          obtain ⟨cs, hcs, hd⟩ := hc
          unfold World.cells? at hcs
          split at hcs
          · obtain ⟨hcl, hcc⟩ := range_mapM_cells hcs
            obtain ⟨p, p1, p2, p3, p4, p5, p6⟩ := trod_rep m e h1 n cs _ hd
            exact ⟨p, p2, p3, p4, by rw [p1]; exact hcc⟩
          · cases hcs
        have hlen : (l.map (·.1)).length = len := by simp [hl]
        have hsz : ∀ v ∈ l.map (·.2), v.cells.size = P.cellsOf e := fun v hv => by
          obtain ⟨p, hp, rfl⟩ := List.mem_map.1 hv
          obtain ⟨i, hi⟩ := List.getElem?_of_mem hp
          exact (hq i p hi).2.2.1
        have hrep := Rep.slice (g := g0 w) none (l.map (·.1)) (l.map (·.2)) (some a) cap (P.cellsOf e) (by simp) (by rw [hlen]; exact hlc) hcm
          (fun i x v hx hv => by
            rw [List.getElem?_map] at hx hv
            cases hli : l[i]? with
            | none => rw [hli] at hx; cases hx
            | some p => rw [hli] at hx hv; cases hx; cases hv; exact (hq i p hli).1) hsz
          (by
            rw [hlen]
            by_cases h0 : len = 0
            · exact .inl h0
            · right
              have hl0 : l[0]? = some l[0] := List.getElem?_eq_getElem (by omega)
              obtain ⟨_, _, q3, q4⟩ := hq 0 _ hl0
              have hc0 : 0 < (l[0]).2.cells.toList.length := by rw [Array.length_toList, q3]; exact h2
              have hcell0 := q4 0 _ (List.getElem?_eq_getElem hc0)
              have hspot : a.spot = none := by
                have := World.cell?_spot hcell0
                simpa [Addr.add] using this
              obtain ⟨b, off, sp⟩ := a
              simp only at hspot
              subst hspot
              have hb : b < w.heap.size := by
                rw [Addr.add_lit, Addr.add_lit] at hcell0
                rcases Nat.lt_or_ge b w.heap.size with h | h
                · exact h
                · exfalso
                  simp [World.cell?, Array.getElem?_eq_none h] at hcell0
              refine ⟨b, off, rfl, fun j u hu => ?_⟩
              simp only [g0, if_pos hb]
              -- which element the cell belongs to
              have hflen : (flat (l.map (·.2))).length = len * P.cellsOf e := by rw [flat_length _ _ hsz, List.length_map, hl]
              have hj : j < len * P.cellsOf e := by rw [← hflen]; exact (List.getElem?_eq_some_iff.1 hu).1
              have hi : j / P.cellsOf e < len := by rw [Nat.div_lt_iff_lt_mul h2]; exact hj
              have hli : l[j / P.cellsOf e]? = some l[j / P.cellsOf e] := List.getElem?_eq_getElem (by omega)
              obtain ⟨_, _, r3, r4⟩ := hq _ _ hli
              have hjm : j % P.cellsOf e < (l[j / P.cellsOf e]).2.cells.toList.length := by rw [Array.length_toList, r3]; exact Nat.mod_lt _ h2
              have hat := flat_at (l.map (·.2)) (P.cellsOf e) hsz (j / P.cellsOf e) (l[j / P.cellsOf e]).2 (by rw [List.getElem?_map, hli]; rfl) (j % P.cellsOf e) _ (List.getElem?_eq_getElem hjm)
              have hsplit : j / P.cellsOf e * P.cellsOf e + j % P.cellsOf e = j := by rw [Nat.mul_comm]; exact Nat.div_add_mod j (P.cellsOf e)
              rw [hsplit, hu] at hat
              have hcl := r4 (j % P.cellsOf e) u (by rw [List.getElem?_eq_getElem hjm]; exact hat.symm)
              rw [Addr.add_lit, Addr.add_lit] at hcl
              rw [← hcl]
              congr 2
              omega) (fun id hid => by cases hid)
        rw [hlen] at hrep
        refine ⟨(.slice none (l.map (·.1)), .slice (some a) len cap), rfl, hrep, ⟨_, rfl, by rw [hlen]; unfold maxLen at hcm; omega, fun y hy => ?_⟩, by simp [Value.cells, h3], rfl, rfl⟩
        obtain ⟨p, hp, rfl⟩ := List.mem_map.1 hy
        obtain ⟨i, hi⟩ := List.getElem?_of_mem hp
        exact (hq i p hi).2.1
    · rename_i n e ht
      simp only [Bool.and_eq_true, beq_iff_eq] at h
      obtain ⟨h1, h2⟩ := h
      obtain ⟨xs, q, _, rfl, hl, hxl, hf⟩ := DataW.trod_array ht hx
      simp only [ht]
      obtain ⟨l, hll, hq⟩ := list_of (Q := fun i (p : AV × Value) => Rep (g0 w) p.1 p.2 ∧ tyAV P m e p.1 ∧ p.2.cells.size = P.cellsOf e ∧ p.2.cells.toList = (cs.drop (i * P.cellsOf e)).take (P.cellsOf e)) n fun i hi => by
        have hd := hf i hi
        rw [List.getElem?_eq_getElem (by omega)] at hd
        obtain ⟨p, p1, p2, p3, p4, p5, p6⟩ := trod_rep m e h1 q _ _ hd
        exact ⟨p, p2, p3, p4, p1⟩
      have hfl : flat (l.map (·.2)) = cs := flat_pieces (size := P.cellsOf e) _ (by rw [hl, h2, List.length_map, hll]) fun i v hv => by
        rw [List.getElem?_map] at hv
        cases hli : l[i]? with
        | none => rw [hli] at hv; cases hv
        | some p => rw [hli] at hv; cases hv; exact (hq i p hli).2.2.2
      refine ⟨(.agg (l.map (·.1)), .agg (flat (l.map (·.2))).toArray), by rw [hfl]; rfl, .agg _ _ (by simp) (fun i x v hx hv => ?_), ⟨_, rfl, by simp [hll], fun y hy => ?_⟩, by simp [Value.cells, hfl, hl], rfl, rfl⟩
      · rw [List.getElem?_map] at hx hv
        cases hli : l[i]? with
        | none => rw [hli] at hx; cases hx
        | some p => rw [hli] at hx hv; cases hx; cases hv; exact (hq i p hli).1
      · obtain ⟨p, hp, rfl⟩ := List.mem_map.1 hy
        obtain ⟨i, hi⟩ := List.getElem?_of_mem hp
        exact (hq i p hi).2.1
    · rename_i fs ht
      simp only [Bool.and_eq_true, List.all_eq_true] at h
      obtain ⟨h1, h2⟩ := h
      obtain ⟨xs, q, _, rfl, hl, hxl, hf⟩ := DataW.trod_struct ht hx
      simp only [ht]
      obtain ⟨l, hll, hq⟩ := list_of (Q := fun i (p : AV × Value) => ∀ f, fs[i]? = some f → Rep (g0 w) p.1 p.2 ∧ tyAV P m f.type p.1 ∧ p.2.cells.size = P.cellsOf f.type ∧ p.2.cells.toList = (cs.drop f.offset).take (P.cellsOf f.type)) fs.size fun i hi => by
        have hfi : fs[i]? = some fs[i] := by simp [hi]
        have hd := hf i _ hfi
        rw [List.getElem?_eq_getElem (by omega)] at hd
        obtain ⟨p, p1, p2, p3, p4, p5, p6⟩ := trod_rep m (fs[i]).type (h1 _ (Array.getElem_mem_toList hi)) q _ _ hd
        exact ⟨p, fun f hf' => by rw [hfi] at hf'; cases hf'; exact ⟨p2, p3, p4, p1⟩⟩
      have hfl : flat (l.map (·.2)) = cs := by
        have := flat_fields (P := P) (cs := cs) fs.toList (l.map (·.2)) 0 (by rw [hl]; exact h2) (by simp [hll]) (Nat.zero_le _) fun i f v hf' hv => by
          rw [List.getElem?_map] at hv
          cases hli : l[i]? with
          | none => rw [hli] at hv; cases hv
          | some p =>
            rw [hli] at hv; cases hv
            obtain ⟨_, _, q3, q4⟩ := hq i p hli f (by simpa using hf')
            exact ⟨q4, q3⟩
        simpa using this
      have hat : ∀ (i : Nat) (p : AV × Value), l[i]? = some p → ∃ f, fs[i]? = some f := fun i p hp => by
        have : i < fs.size := by have := (List.getElem?_eq_some_iff.1 hp).1; omega
        exact ⟨fs[i], by simp [this]⟩
      refine ⟨(.agg (l.map (·.1)), .agg (flat (l.map (·.2))).toArray), by rw [hfl]; rfl, .agg _ _ (by simp) (fun i x v hx hv => ?_), ⟨_, rfl, by simp [hll], fun i f y hf' hy => ?_⟩, by simp [Value.cells, hfl, hl], rfl, rfl⟩
      · rw [List.getElem?_map] at hx hv
        cases hli : l[i]? with
        | none => rw [hli] at hx; cases hx
        | some p =>
          rw [hli] at hx hv; cases hx; cases hv
          obtain ⟨f, hf'⟩ := hat i p hli
          exact (hq i p hli f hf').1
      · rw [List.getElem?_map] at hy
        cases hli : l[i]? with
        | none => rw [hli] at hy; cases hy
        | some p => rw [hli] at hy; cases hy; exact (hq i p hli f hf').2.1
    · cases h

/-- An argument, opened. -/
theorem open_any {m : Nat} {t : TypeId} {v : Value} {d : DataW H} {ps : List MemPlace} {r : Reach} {b0 : Nat} (ht : dataTy P m t = true) (hval : Value.okWide P w r b0 t v) (hd : DataW.Trod enc P w base spare held t v d ps) : ∃ x, Rep (g0 w) x v ∧ tyAV P m t x := by
  obtain ⟨fuel, hf⟩ := hd
  obtain ⟨p, p1, p2, p3, p4, p5, p6⟩ := trod_rep m t ht fuel _ _ hf
  have hv : p.2 = v := by
    unfold Value.okWide at hval
    cases ha : aggT P t with
    | true =>
      have hag : ∃ cs, v = .agg cs := by
        unfold aggT at ha
        split at ha
        · rename_i h; rw [h] at hval; exact ⟨_, hval.choose_spec.1⟩
        · rename_i h; rw [h] at hval; exact ⟨_, hval.choose_spec.1⟩
        · cases ha
      obtain ⟨cs, rfl⟩ := hag
      rw [ha] at p5
      cases hp : p.2 <;> rw [hp] at p5 <;> simp [valAgg] at p5
      rename_i cs'
      rw [hp] at p1
      simp only [Value.cells] at p1
      congr 1
      exact Array.ext' p1
    | false =>
      rw [ha] at p5
      have hna : valAgg v = false := by
        cases v <;> try rfl
        rename_i cs
        exfalso
        obtain ⟨m', rfl⟩ : ∃ k, m = k + 1 := by cases m with
          | zero => simp [dataTy] at ht
          | succ k => exact ⟨k, rfl⟩
        unfold dataTy at ht
        unfold aggT at ha
        split at ht <;> first | (cases ht; done) | (rename_i h; rw [h] at ha hval; simp [Cell.okWide, Cell.ok] at ha hval; done)
      have c1 : ∀ u : Value, valAgg u = false → u.cells = #[u] := fun u hu => by cases u <;> simp_all [valAgg, Value.cells]
      rw [c1 _ p5, c1 _ hna] at p1
      simpa using p1
  subst hv
  exact ⟨p.1, p2, p3⟩
end
end Go.Ab

/- Data of the common kinds: bytes, strings, lists. -/
namespace Go.Ab
open Go.RowKit

theorem list_map_of {α : Type} {R : α → Prop} {f : α → AV} : ∀ {xs : List AV}, (∀ y ∈ xs, ∃ d, R d ∧ y = f d) → ∃ ds : List α, (∀ d ∈ ds, R d) ∧ xs = ds.map f ∧ ds.length = xs.length
  | [], _ => ⟨[], fun d h => (by cases h), rfl, rfl⟩
  | x :: xs, h => by
    obtain ⟨d, h1, h2⟩ := h x (List.mem_cons_self ..)
    obtain ⟨ds, h3, h4, h5⟩ := list_map_of (xs := xs) fun y hy => h y (List.mem_cons_of_mem _ hy)
    refine ⟨d :: ds, fun e he => ?_, by simp [h2, ← h4], by simp [h5]⟩
    rcases List.mem_cons.1 he with rfl | he
    · exact h1
    · exact h3 e he

theorem ty_int {P : Program} {m : Nat} {t : TypeId} {k : IntKind} {x : AV} (ht : intTy P t = some k) (h : tyAV P (m + 1) t x) : ∃ n, (Lit.int k n).wf = true ∧ x = .lit (.int k n) := by
  unfold tyAV at h
  rw [intTy_sound ht] at h
  obtain ⟨n, h1, h2⟩ := h
  exact ⟨n, h2, h1⟩
theorem ty_bool {P : Program} {m : Nat} {t : TypeId} {x : AV} (ht : boolTy P t = true) (h : tyAV P (m + 1) t x) : ∃ b, x = .lit (.bool b) := by
  have hb : P.underlying t = some .bool := by
    unfold boolTy at ht
    split at ht
    · assumption
    · cases ht
  unfold tyAV at h
  rw [hb] at h
  exact h
theorem ty_str {P : Program} {m : Nat} {t : TypeId} {x : AV} (ht : strTy P t = true) (h : tyAV P (m + 1) t x) : ∃ l : List UInt8, l.length ≤ 9223372036854775807 ∧ x = .lit (.string ⟨l.toArray⟩) := by
  unfold tyAV at h
  rw [strTy_sound ht] at h
  obtain ⟨l, h1, h2⟩ := h
  exact ⟨l, h2, h1⟩
theorem ty_slice {P : Program} {m : Nat} {t e : TypeId} {x : AV} (ht : sliceTy P t = some e) (h : tyAV P (m + 1) t x) : ∃ xs, xs.length ≤ 9223372036854775807 ∧ (∀ y ∈ xs, tyAV P m e y) ∧ x = .slice none xs := by
  unfold tyAV at h
  rw [sliceTy_sound ht] at h
  obtain ⟨xs, h1, h2, h3⟩ := h
  exact ⟨xs, h2, h3, h1⟩
theorem ty_byte {P : Program} {m : Nat} {t : TypeId} {x : AV} (ht : byteTy P t = true) (h : tyAV P (m + 1) t x) : ∃ b : UInt8, True ∧ x = byteAV b := by
  have he : P.underlying t = some (.int .u8) := by
    unfold byteTy at ht
    split at ht
    · assumption
    · cases ht
  unfold tyAV at h
  rw [he] at h
  obtain ⟨n, rfl, hw⟩ := h
  obtain ⟨b, hb, _⟩ := byte_of_wf hw
  exact ⟨b, trivial, hb⟩
theorem ty_bytes {P : Program} {m : Nat} {t e : TypeId} {x : AV} (ht : sliceTy P t = some e) (he : byteTy P e = true) (h : tyAV P (m + 2) t x) : ∃ bs : List UInt8, bs.length ≤ 9223372036854775807 ∧ x = .slice none (bs.map byteAV) := by
  obtain ⟨xs, h1, h2, rfl⟩ := ty_slice ht h
  obtain ⟨bs, _, h3, h4⟩ := list_map_of fun y hy => ty_byte he (h2 y hy)
  exact ⟨bs, by omega, by rw [h3]⟩
theorem ty_bytearr {P : Program} {m n size : Nat} {t e : TypeId} {x : AV} (ht : arrInfo P t = some (n, e, size)) (he : byteTy P e = true) (h : tyAV P (m + 2) t x) : ∃ bs : List UInt8, bs.length = n ∧ x = .agg (bs.map byteAV) := by
  unfold tyAV at h
  rw [arrTy_sound (arrInfo_sound ht).1] at h
  obtain ⟨xs, rfl, h1, h2⟩ := h
  obtain ⟨bs, _, h3, h4⟩ := list_map_of fun y hy => ty_byte he (h2 y hy)
  exact ⟨bs, by omega, by rw [h3]⟩
/-- A list of things of one kind. -/
theorem ty_list {P : Program} {α : Type} {R : α → Prop} {f : α → AV} {m : Nat} {t e : TypeId} {x : AV} (ht : sliceTy P t = some e) (he : ∀ y, tyAV P m e y → ∃ d, R d ∧ y = f d) (h : tyAV P (m + 1) t x) : ∃ l : List α, (l.length ≤ 9223372036854775807 ∧ ∀ d ∈ l, R d) ∧ x = .slice none (l.map f) := by
  obtain ⟨xs, h1, h2, rfl⟩ := ty_slice ht h
  obtain ⟨l, h3, h4, h5⟩ := list_map_of fun y hy => he y (h2 y hy)
  exact ⟨l, ⟨by omega, h3⟩, by rw [h4]⟩
/-- The fields of a struct. -/
theorem ty_struct {P : Program} {m : Nat} {t : TypeId} {fs : Array Field} {x : AV} (ht : P.underlying t = some (.struct fs)) (h : tyAV P (m + 1) t x) : ∃ xs, x = .agg xs ∧ xs.length = fs.size ∧ ∀ (i : Nat) (f : Field) (y : AV), fs[i]? = some f → xs[i]? = some y → tyAV P m f.type y := by
  unfold tyAV at h
  rw [ht] at h
  exact h
end Go.Ab

/- Tags: 32 bytes. Lists of integers. -/
namespace Go.Ab
open Go.RowKit

abbrev Tg := {b : List UInt8 // b.length = 32}
def tagAV (t : Tg) : AV := .agg (t.1.map byteAV)
@[go_sem] theorem tagAV_sz (t : Tg) : (tagAV t).sz = 32 := by
  rw [tagAV]; simp only [AV.sz, szl_bytes]; exact t.2
@[go_sem] theorem tagAV_isAgg (t : Tg) : (tagAV t).isAgg = true := rfl
theorem celll_bytes (bs : List UInt8) : AV.celll (bs.map byteAV) = true := by
  rw [AV.celll_all, List.all_eq_true]; intro x hx; obtain ⟨b, _, rfl⟩ := List.mem_map.1 hx; rfl
@[go_sem] theorem tagAV_cell (t : Tg) : (tagAV t).cell = true := celll_bytes t.1
@[go_sem] theorem tagAV_ren (f : Nat → Option Nat) (t : Tg) : (tagAV t).ren f = tagAV t := by
  simp only [tagAV, AV.ren, renl_bytes]
@[go_sem] theorem renl_tags (f : Nat → Option Nat) (l : List Tg) : AV.renl f (l.map tagAV) = l.map tagAV := by
  rw [AV.renl_map, List.map_map]; exact List.map_congr_left fun t _ => tagAV_ren f t
@[go_sem] theorem all_tags1 (l : List Tg) : (l.map tagAV).all (fun x => x.sz == 32) = true := by
  rw [List.all_eq_true]; intro x hx; obtain ⟨b, _, rfl⟩ := List.mem_map.1 hx; simp [tagAV_sz]
@[go_sem] theorem all_tags2 (l : List Tg) : (l.map tagAV).all (fun x => x.sz == 32 && x.cell) = true := by
  rw [List.all_eq_true]; intro x hx; obtain ⟨b, _, rfl⟩ := List.mem_map.1 hx; simp [tagAV_sz, tagAV_cell]
@[go_sem] theorem evBin_tag {P : Program} {T : TypeId} (h : eqTop P T = some (.bytes 32)) (a b : Tg) : evBin P .eql T (tagAV a) (tagAV b) = some ⟨[], .lit (.bool (decide (a = b))), []⟩ := by
  have e : (a.1 == b.1) = decide (a = b) := by
    rw [Bool.eq_iff_iff]; simp [Subtype.ext_iff]
  simp only [evBin, tagAV, evEqA, h, eqA, bytesOf0_map, a.2, b.2, and_self, if_true, e]
@[go_sem] theorem evBin_tagN {P : Program} {T : TypeId} (h : eqTop P T = some (.bytes 32)) (a b : Tg) : evBin P .neq T (tagAV a) (tagAV b) = some ⟨[], .lit (.bool (!decide (a = b))), []⟩ := by
  have e : (a.1 == b.1) = decide (a = b) := by
    rw [Bool.eq_iff_iff]; simp [Subtype.ext_iff]
  simp only [evBin, tagAV, evEqA, h, eqA, bytesOf0_map, a.2, b.2, and_self, if_true, e]
/-- The tag of 32 zeros. -/
def zeroTag : Tg := ⟨List.replicate 32 0, by simp⟩
theorem zeroTag_eq : AV.agg ((List.replicate 32 (0 : UInt8)).map byteAV) = tagAV zeroTag := rfl

def setT (t : Tg) (i : Nat) (b : UInt8) : Tg := ⟨t.1.set i b, by simp [t.2]⟩
@[go_sem] theorem tag_get (t : Tg) (i : Nat) (h : i < 32) : (tagAV t).get [i] = some (byteAV (t.1[i]'(by rw [t.2]; exact h))) := by
  have h2 : i < t.1.length := by rw [t.2]; exact h
  simp [tagAV, AV.get, h2]
@[go_sem] theorem tag_offs (t : Tg) (i : Nat) (h : i < 32) : (tagAV t).offs [i] = i := by
  have h2 : i < t.1.length := by rw [t.2]; exact h
  simp only [tagAV, AV.offs, ← List.map_take, szl_bytes, List.length_take]
  simp [h2, AV.offs]; omega
theorem tag_put (t : Tg) (i : Nat) (b : UInt8) (h : i < 32) : (tagAV t).put [i] (byteAV b) = tagAV (setT t i b) := by
  have h2 : i < t.1.length := by rw [t.2]; exact h
  simp [tagAV, AV.put, h2, setT, List.map_set]
@[go_sem] theorem tag_putn (t : Tg) (i : Nat) (n : Nat) (h : i < 32) (hn : n < 256) : (tagAV t).put [i] (.lit (.int .u8 (n : Int))) = tagAV (setT t i (UInt8.ofNat n)) := by
  have e : AV.lit (.int .u8 (n : Int)) = byteAV (UInt8.ofNat n) := by simp [byteAV, Nat.mod_eq_of_lt hn]
  rw [e, tag_put t i _ h]

@[go_sem] theorem agg_zero : AV.agg (List.replicate 32 (byteAV 0)) = tagAV zeroTag := by rw [← zeroTag_eq, List.map_replicate]
@[go_sem] theorem agg_tag (t : Tg) : AV.agg (t.1.map byteAV) = tagAV t := rfl
@[go_sem high] theorem fillA_tag (t : Tg) (i : Nat) (a : Int) (r : List (Nat × AV)) (hi : i < 32) (h0 : 0 ≤ a) (h1 : a < 256) :
    fillA (fun i => some (i, 1)) (t.1.map byteAV) ((i, .lit (.int .u8 a)) :: r) = fillA (fun i => some (i, 1)) ((setT t i (UInt8.ofNat a.toNat)).1.map byteAV) r := by
  have h2 : i < t.1.length := by rw [t.2]; exact hi
  obtain ⟨n, rfl⟩ := Int.eq_ofNat_of_zero_le h0
  have e : AV.lit (.int .u8 (n : Int)) = byteAV (UInt8.ofNat n) := by simp [byteAV, Nat.mod_eq_of_lt (show n < 256 by omega)]
  have e2 : AV.szl ((t.1.map byteAV).take i) = i := by rw [szl_take_bytes]; omega
  rw [e, fillA_cons, e2]
  simp [h2, AV.sz, byteAV, setT, List.map_set]
@[go_sem high] theorem fillA_tag0 (t : Tg) : fillA (fun i => some (i, 1)) (t.1.map byteAV) [] = some (t.1.map byteAV) := fillA_nil _ _

def intAV (x : Int) : AV := .lit (.int .i64 x)
@[go_sem] theorem intAV_sz (x : Int) : (intAV x).sz = 1 := rfl
@[go_sem] theorem intAV_isAgg (x : Int) : (intAV x).isAgg = false := rfl
@[go_sem] theorem renl_ints (f : Nat → Option Nat) (l : List Int) : AV.renl f (l.map intAV) = l.map intAV := by
  rw [AV.renl_map, List.map_map]; rfl

theorem ty_tag {P : Program} {m size : Nat} {t e : TypeId} {x : AV} (ht : arrInfo P t = some (32, e, size)) (he : byteTy P e = true) (h : tyAV P (m + 2) t x) : ∃ a : Tg, True ∧ x = tagAV a := by
  obtain ⟨bs, h1, rfl⟩ := ty_bytearr ht he h
  exact ⟨⟨bs, h1⟩, trivial, rfl⟩
/-! ### Strings as lists of bytes -/
@[go_sem] theorem bstr_size (l : List UInt8) : (ByteArray.mk l.toArray).size = l.length := by simp [ByteArray.size]
@[go_sem] theorem bstr_toList (l : List UInt8) : (ByteArray.mk l.toArray).toList = l := by rw [ByteArray.toList_eq]
@[go_sem] theorem bstr_append (a b : List UInt8) : ByteArray.mk a.toArray ++ ByteArray.mk b.toArray = ByteArray.mk (a ++ b).toArray := by
  apply ByteArray.ext
  simp
@[go_sem] theorem bstr_extract (l : List UInt8) (i j : Nat) : (ByteArray.mk l.toArray).extract i j = ByteArray.mk ((l.take j).drop i).toArray := by
  apply ByteArray.ext
  simp [List.drop_take]
attribute [go_sem] strV
def strAV (l : List UInt8) : AV := .lit (.string ⟨l.toArray⟩)
@[go_sem] theorem strAV_sz (l : List UInt8) : (strAV l).sz = 1 := rfl
@[go_sem] theorem strAV_isAgg (l : List UInt8) : (strAV l).isAgg = false := rfl
@[go_sem] theorem strAV_cell (l : List UInt8) : (strAV l).cell = true := rfl
@[go_sem] theorem strAV_ren (f : Nat → Option Nat) (l : List UInt8) : (strAV l).ren f = strAV l := rfl
@[go_sem] theorem renl_strs (f : Nat → Option Nat) (l : List (List UInt8)) : AV.renl f (l.map strAV) = l.map strAV := by
  rw [AV.renl_map, List.map_map]; rfl
@[go_sem] theorem all_strs1 (l : List (List UInt8)) : (l.map strAV).all (fun x => x.sz == 1) = true := by
  rw [List.all_eq_true]; intro x hx; obtain ⟨b, _, rfl⟩ := List.mem_map.1 hx; rfl
@[go_sem] theorem all_strs2 (l : List (List UInt8)) : (l.map strAV).all (fun x => x.sz == 1 && x.cell) = true := by
  rw [List.all_eq_true]; intro x hx; obtain ⟨b, _, rfl⟩ := List.mem_map.1 hx; rfl
@[go_sem] theorem bytesOf_nil : bytesOf [] = some [] := rfl
@[go_sem] theorem bytesOf_lit (n : Int) (r : List AV) (h0 : 0 ≤ n) (h1 : n < 256) : bytesOf (.lit (.int .u8 n) :: r) = (bytesOf r).map (UInt8.ofNat n.toNat :: ·) := by
  rw [bytesOf, if_pos ⟨h0, h1⟩]
@[go_sem high] theorem bytesOf_byte (c : UInt8) (r : List AV) : bytesOf (.lit (.int .u8 c.toNat) :: r) = (bytesOf r).map (c :: ·) := by
  have h := c.toNat_lt
  rw [bytesOf_lit _ _ (by omega) (by omega)]
  simp
@[go_sem] theorem bytesOf_byteAV (c : UInt8) (r : List AV) : bytesOf (byteAV c :: r) = (bytesOf r).map (c :: ·) := bytesOf_byte c r
@[go_sem] theorem bytesOf_app (l : List UInt8) (r : List AV) : bytesOf (l.map byteAV ++ r) = (bytesOf r).map (l ++ ·) := by
  induction l with
  | nil => cases h : bytesOf r <;> simp [h]
  | cons b l ih =>
    rw [List.map_cons, List.cons_append, bytesOf_byteAV, ih]
    cases bytesOf r <;> rfl
@[go_sem] theorem bytesOf_mapB (l : List UInt8) : bytesOf (l.map byteAV) = some l := by
  have := bytesOf_app l []
  rw [List.append_nil] at this
  rw [this, bytesOf_nil]; simp
@[go_sem] theorem wrap_u64r {x : Int} (h1 : 0 ≤ x) (h2 : x ≤ 18446744073709551615) : IntKind.u64.wrap x = x := by
  have : IntKind.u64.wrap x = x % 18446744073709551616 := by simp [IntKind.wrap, IntKind.bits, IntKind.signed]
  rw [this]; omega
end Go.Ab

/- Ghost steps inside a box: a row of one's own that is written no more; the version of a row. -/
namespace Go.Ab
open Go.RowKit

@[go_sem] theorem szl_replicate (n : Nat) (a : AV) : AV.szl (List.replicate n a) = n * a.sz := by
  rw [AV.szl_uniform _ a.sz (fun x hx => by rw [List.eq_of_mem_replicate hx]), List.length_replicate]

@[go_sem] theorem replicate_two (a : AV) : List.replicate 2 a = [a, a] := rfl
theorem AV.sub_agg {xs ys : List AV} (h : ALe xs ys) : AV.le (.agg xs) (.agg ys) := fun g v hr => by
  cases hr with
  | agg _ vs hvl hvr =>
    obtain ⟨h1, h2⟩ := h.at
    exact .agg ys vs (by rw [hvl, h1]) fun i y v hy hv => by obtain ⟨x, hx, hxy⟩ := h2 i y hy; exact hxy g v (hvr i x v hx hv)

theorem SimA.turnIn {W0 : World} {g g' : Ghost} {N : Nat} {s : Slots} {σ σ' : Nat → Ent} {n n' : Nat} {a : Act} {w : World} (h : SimA W0 g N ⟨s, σ, n⟩ a w) (hle : g.le g') (hS : Sim W0 g' σ' n' w) (hn : n ≤ n') {id : Nat} {path : List Nat} {bt : TypeId} {c y z : AV}
    (hσ : σ id = .box bt c) (hσ' : σ' id = .box bt c) (hc : c.get path = some y) (hz : ∀ u, Rep g y u → Rep g' z u) (hy1 : y.sz = 1) (hz1 : z.sz = 1) : SimA W0 g' N ⟨s, upd σ' id (.box bt (c.put path z)), n'⟩ a w := by
  obtain ⟨b0, v, hb0, _, hrep, hheap, hG⟩ := h.sim.box id bt c hσ
  obtain ⟨u, hu, hub, huc⟩ := hrep.get hc
  obtain ⟨v', hv', hvc⟩ := (hrep.mono hle).put hc (hz u hu) (by rw [hy1, hz1])
  have hus : u.cells.size = 1 := by rw [hu.size, hy1]
  have hcells : v'.cells = v.cells := by
    obtain ⟨q, hq⟩ : ∃ q, u.cells.toList = [q] := by
      have : u.cells.toList.length = 1 := by rw [Array.length_toList, hus]
      match hl : u.cells.toList, this with
      | [q], _ => exact ⟨q, rfl⟩
    apply Array.ext'
    rw [hvc, hq, hus]
    have hk := huc 0 q (by rw [hq]; rfl)
    rw [Nat.add_zero] at hk
    have hlt : c.offs path < v.cells.toList.length := (List.getElem?_eq_some_iff.1 hk).1
    have l1 : (v.cells.toList.take (c.offs path)).length = c.offs path := by rw [List.length_take]; omega
    have l2 : (v.cells.toList.take (c.offs path) ++ [q]).length = c.offs path + 1 := by rw [List.length_append, l1]; rfl
    apply List.ext_getElem?
    intro j
    by_cases h1' : j < c.offs path
    · rw [List.getElem?_append_left (by omega), List.getElem?_append_left (by omega), List.getElem?_take, if_pos h1']
    · by_cases h2' : j = c.offs path
      · subst h2'
        rw [List.getElem?_append_left (by omega), List.getElem?_append_right (by omega), l1, Nat.sub_self, hk]
        rfl
      · rw [List.getElem?_append_right (by omega), l2, List.getElem?_drop]
        congr 1
        omega
  have hE : EntOK W0 g' w id (σ' id) := hS.ents id
  rw [hσ'] at hE
  obtain ⟨e1, e2, e3, b1, v1, e4, e5, e6, e7⟩ := hE
  have hb1 : b1 = b0 := by
    have := hle.loc id b0 hb0
    rw [e4] at this; injection this
  subst hb1
  refine ⟨?_, h.size, fun t => (h.slots t).mono hle⟩
  have hlt : id < n' := by
    rcases Nat.lt_or_ge id n with h' | h'
    · omega
    · have := h.sim.bound id h'; simp only at this; rw [hσ] at this; cases this
  exact hS.change hlt g'.le_refl hS.below hS.imm (fun _ _ => ⟨rfl, rfl, rfl, rfl⟩) (fun i hi b' hb' => ⟨⟨rfl, fun _ => rfl⟩, fun e => hi (hS.sep i id b' hb' e)⟩) ⟨e1, e2, e3, b1, v', e4, hv', by rw [hcells]; exact hheap, e7⟩ (fun b' hb' => hS.fresh id b' hb') (Nat.le_refl _)

/-- In a box: a row that is written no more. -/
theorem go_freezeIn {P : Program} {N : Nat} {b : Code} {Q : AExit → Cfg → Prop} {s : Slots} {σ : Nat → Ent} {n : Nat} (id : Nat) (path : List Nat) {r ver size : Nat} {e bt : TypeId} {c : AV} {xs : List AV} {k : Nat} (hσ : σ id = .box bt c) (hr : σ r = .mrow ver e size xs) (hc : c.get path = some (.ms r ver size 0 k)) (hk : k = xs.length)
    (h : aw P N b Q ⟨s, upd (upd σ r (.row e size xs.length)) id (.box bt (c.put path (.slice none xs))), n⟩) : aw P N b Q ⟨s, σ, n⟩ := by
  refine go_ghost (fun W0 g a w hS => ?_) h
  subst hk
  have hne : id ≠ r := by rintro rfl; rw [hσ] at hr; cases hr
  obtain ⟨g2, hle2, hS2, u2, vs, k1, k2, k3, k4, k5, k6, k7, k8⟩ := hS.sim.freezeM hr
  exact ⟨g2, hle2, hS.turnIn hle2 hS2 (Nat.le_refl _) hσ (by rw [upd_ne _ _ _ _ hne]; exact hσ) hc (fun u hu => AV.le_own _ _ _ _ (hu.msFrozen hle2 k1 k3 k2 k4 k5 k6 k8)) rfl rfl⟩

/-- In a box: a part says less. -/
theorem go_lessIn {P : Program} {N : Nat} {b : Code} {Q : AExit → Cfg → Prop} {s : Slots} {σ : Nat → Ent} {n : Nat} (id : Nat) (path : List Nat) (z : AV) {bt : TypeId} {c y : AV} (hσ : σ id = .box bt c) (hc : c.get path = some y) (hyz : AV.le y z) (hy1 : y.sz = 1) (hz1 : z.sz = 1)
    (h : aw P N b Q ⟨s, upd σ id (.box bt (c.put path z)), n⟩) : aw P N b Q ⟨s, σ, n⟩ :=
  go_ghost (fun W0 g a w hS => ⟨g, g.le_refl, hS.turnIn g.le_refl hS.sim (Nat.le_refl _) hσ hσ hc (fun u hu => hyz g u hu) hy1 hz1⟩) h

theorem upd_twice {α : Type} (s : Nat → α) (k : Nat) (a b : α) : upd (upd s k a) k b = upd s k b := by
  funext i
  by_cases h : i = k
  · subst h; simp only [upd_same]
  · simp only [upd_ne _ _ _ _ h]
end Go.Ab

/- Loops: what a round does not assign stays. -/
namespace Go.Ab
open Go.RowKit

/-- The slots outside of 'L' are as they were. -/
def SKeep (L : List Nat) (s s' : Slots) : Prop := ∀ t, t ∉ L → s' t = s t
/-- The entities below 'n' outside of 'L' are as they were. -/
def EKeep (n : Nat) (L : List Nat) (σ σ' : Nat → Ent) : Prop := ∀ id, id < n → id ∉ L → σ' id = σ id
theorem SKeep.refl (L : List Nat) (s : Slots) : SKeep L s s := fun _ _ => rfl
theorem EKeep.refl (n : Nat) (L : List Nat) (σ : Nat → Ent) : EKeep n L σ σ := fun _ _ _ => rfl
theorem SKeep.at {L : List Nat} {s s' : Slots} (h : SKeep L s s') (t : Nat) (ht : L.contains t = false) : s' t = s t := h t (by simpa using ht)
theorem EKeep.at {n : Nat} {L : List Nat} {σ σ' : Nat → Ent} (h : EKeep n L σ σ') (id : Nat) (hid : id < n) (ht : id ∉ L) : σ' id = σ id := h id hid ht
theorem SKeep.upd {L : List Nat} {s s' : Slots} {k : Nat} {v : AV} (hk : L.contains k = true) (h : SKeep L s s') : SKeep L s (upd s' k v) := fun t ht => by
  have hne : t ≠ k := fun e => ht (by subst e; simpa using hk)
  rw [upd_ne _ _ _ _ hne]; exact h t ht
theorem EKeep.updN {n : Nat} {L : List Nat} {σ σ' : Nat → Ent} {k : Nat} {E : Ent} (hk : n ≤ k) (h : EKeep n L σ σ') : EKeep n L σ (upd σ' k E) := fun id hid ht => by
  rw [upd_ne _ _ _ _ (show id ≠ k by omega)]; exact h id hid ht
theorem EKeep.updL {n : Nat} {L : List Nat} {σ σ' : Nat → Ent} {k : Nat} {E : Ent} (hk : k ∈ L) (h : EKeep n L σ σ') : EKeep n L σ (upd σ' k E) := fun id hid ht => by
  have hne : id ≠ k := fun e => ht (by rw [e]; exact hk)
  rw [upd_ne _ _ _ _ hne]; exact h id hid ht
/-- Behind a loop within: what it kept, and what was kept ahead of it. -/
theorem SKeep.step {L L' : List Nat} {s s' s'' : Slots} (h : SKeep L' s' s'') (hsub : L'.all (fun x => L.contains x) = true) (h0 : SKeep L s s') : SKeep L s s'' := fun t ht => by
  rw [h t (fun hm => ht (by have := List.all_eq_true.1 hsub t hm; simpa using this))]; exact h0 t ht
theorem EKeep.step {n n' : Nat} {L L' : List Nat} {σ σ' σ'' : Nat → Ent} (h : EKeep n' L' σ' σ'') (hn : n ≤ n') (hsub : ∀ x ∈ L', n ≤ x ∨ x ∈ L) (h0 : EKeep n L σ σ') : EKeep n L σ σ'' := fun id hid ht => by
  rw [h id (by omega) (fun hm => by rcases hsub id hm with h1 | h1; · omega
                                    · exact ht h1)]; exact h0 id hid ht

theorem go_loopB {P : Program} {N : Nat} {b : Code} {Q : AExit → Cfg → Prop} {s : Slots} {σ : Nat → Ent} {n : Nat} (bnd : Nat) (hmix : P.follows .mixedOrders = true) (hok : codeOK N b = true) (mods ents : List Nat) (I : Nat → Slots → (Nat → Ent) → Nat → Prop)
    (h0 : ∃ m, I m s σ n)
    (round : ∀ m s' σ' n', SKeep mods s s' → EKeep bnd ents σ σ' → n ≤ n' → I m s' σ' n' → aw P N b (aThen (fun c' => SKeep mods s c'.s ∧ EKeep bnd ents σ c'.σ ∧ n ≤ c'.n ∧ ∃ m', m' < m ∧ I m' c'.s c'.σ c'.n) Q) ⟨s', σ', n'⟩) : aw P N (.loop b) Q ⟨s, σ, n⟩ := by
  obtain ⟨m0, h0⟩ := h0
  intro hok' hmix' ro hro W0 g a w hS
  refine wp_loop_ghost (X := Cfg × Nat) (fun x a' w => ∃ g', g.le g' ∧ SimA W0 g' N x.1 a' w ∧ Marks g g' a.defers a'.defers ∧ SKeep mods s x.1.s ∧ EKeep bnd ents σ x.1.σ ∧ n ≤ x.1.n ∧ I x.2 x.1.s x.1.σ x.1.n) (fun x => x.2) (⟨s, σ, n⟩, m0) ⟨g, g.le_refl, hS, .refl _ _ _, SKeep.refl _ _, EKeep.refl _ _ _, Nat.le_refl _, h0⟩ fun x a w ⟨g', hle, hS', hM, k1, k2, k3, hI⟩ => ?_
  obtain ⟨⟨s', σ', n'⟩, m⟩ := x
  refine wpIn_mono (round m s' σ' n' k1 k2 k3 hI hok hmix ro hro.loop W0 g' a w hS') fun e a' w' ⟨c', g'', hle', hS'', hM', hq⟩ => ?_
  cases e with
  | normal =>
    obtain ⟨q1, q2, q3, m', q4, q5⟩ := hq
    exact ⟨(c', m'), ⟨g'', hle.trans hle', hS'', hM.trans hle hle' hM', q1, q2, q3, q5⟩, q4⟩
  | exit id => exact ⟨c', g'', hle.trans hle', hS'', hM.trans hle hle' hM', hq⟩
  | ret => exact ⟨c', g'', hle.trans hle', hS'', hM.trans hle hle' hM', hq⟩
  | goto => exact hq.elim
  | panic => exact hq.elim
  | outgrown => exact hq.elim
theorem go_loopF {P : Program} {N : Nat} {b : Code} {Q : AExit → Cfg → Prop} {s : Slots} {σ : Nat → Ent} {n : Nat} (hmix : P.follows .mixedOrders = true) (hok : codeOK N b = true) (mods ents : List Nat) (I : Nat → Slots → (Nat → Ent) → Nat → Prop)
    (h0 : ∃ m, I m s σ n)
    (round : ∀ m s' σ' n', SKeep mods s s' → EKeep n ents σ σ' → n ≤ n' → I m s' σ' n' → aw P N b (aThen (fun c' => SKeep mods s c'.s ∧ EKeep n ents σ c'.σ ∧ n ≤ c'.n ∧ ∃ m', m' < m ∧ I m' c'.s c'.σ c'.n) Q) ⟨s', σ', n'⟩) : aw P N (.loop b) Q ⟨s, σ, n⟩ :=
  go_loopB n hmix hok mods ents I h0 round

/-! ### A slice of bytes turned into its own type: its row is marked, and is written no more -/
theorem freeze_heap {w : World} {b : Nat} {cur : Array Value} {e : TypeId} {fz : Nat × Nat} (hb : w.heap[b]? = some (.cells cur e fz)) (hz : noFz fz cur.size) :
    ∃ fz', (w.freeze ⟨b, cur.size, none⟩ 1).heap[b]? = some (.cells cur e fz') ∧ noFz fz' cur.size ∧ (∀ j, j ≠ b → (w.freeze ⟨b, cur.size, none⟩ 1).heap[j]? = w.heap[j]?) ∧ (w.freeze ⟨b, cur.size, none⟩ 1).heap.size = w.heap.size := by
  obtain ⟨lo, hi⟩ := fz
  refine ⟨if lo == hi then (cur.size, cur.size + 1) else (min lo cur.size, max hi (cur.size + 1)), ?_, ?_, fun j hj => ?_, ?_⟩
  · simp only [World.freeze, if_neg (show ¬ (1 = 0) by decide)]
    rw [Array.getElem?_modify, if_pos rfl, hb]
    rfl
  · split
    · exact .inr (Nat.le_refl _)
    · rename_i hne
      rcases hz with h | h
      · simp only at h; simp [h] at hne
      · simp only at h; exact .inr (by simp only; omega)
  · simp only [World.freeze, if_neg (show ¬ (1 = 0) by decide)]
    rw [Array.getElem?_modify, if_neg (Ne.symm hj)]
  · simp only [World.freeze, if_neg (show ¬ (1 = 0) by decide), Array.size_modify]

theorem holds_convM {P : Program} {o : Oper} {s : Slots} {id : Nat} {t e e' : TypeId} {r ver size : Nat} {x : Operand} {xs : List AV} (ho : o.op = .convert t t x) (ht : sliceTy P t = some e') (he : byteTy P e' = true) (hx : aeval s x = .ms r ver size 0 xs.length) (hpos : 0 < xs.length) :
    OpHolds P o s id [(r, .mrow ver e size xs)] (.slice (some r) xs) [(r, .row e size xs.length)] := by
  refine ⟨fun p hp => by simp at hp; subst hp; simp, fun q hq => .inr ⟨(r, .mrow ver e size xs), by simp, by simp at hq; subst hq; rfl⟩, fun W0 g σ n w a hS hr _ _ hp => ?_⟩
  have h1 := hr x (by simp [ho, Op.operands])
  rw [hx] at h1
  have hp' : σ r = .mrow ver e size xs := hp (r, .mrow ver e size xs) (by simp)
  have heu : P.underlying e' = some (.int .u8) := by
    unfold byteTy at he
    split at he
    · assumption
    · cases he
  obtain ⟨u, vs, hmr, hlen, hvl, hvr, hvs, hown⟩ := hS.mrowAt hp'
  generalize hv : a.eval x = v at h1
  have h1' := h1
  cases h1 with
  | ms _ _ _ _ _ ver' u' Ax cx hm' hv' hlx hcx h =>
    rw [hmr] at hm'; cases hm'
    obtain ⟨A0, n0, c0, rfl, j1, j2, j3⟩ := h rfl
    obtain ⟨b, hA0, hAx⟩ := j3 hpos
    obtain ⟨e1, e2⟩ := j2 rfl
    subst e1 e2
    simp only [slen] at hlen
    subst hlen
    subst hA0
    have hown0 := hown
    rcases hown.2 with ⟨h0, h00⟩ | ⟨b', cap, cur, fz, hb1, hb2, hb3, hb4, hb5, hb6, hb7, hb8⟩
    · simp at h0
    · simp at hb1
      obtain ⟨rfl, rfl⟩ := hb1
      obtain ⟨fz', f1, f2, f3, f4⟩ := freeze_heap hb3 hb4
      have hown' : ownsR (w.freeze ⟨b, cur.size, none⟩ 1) W0.heap.size e size (.slice (some ⟨b, 0, none⟩) xs.length cx) xs.length (flat vs) := ⟨hown.1, .inr ⟨b, cx, cur, fz', rfl, hb2, f1, f2, hb5, hb6, hb7, hb8⟩⟩
      obtain ⟨g1, k1, k2, k3, k4⟩ := hS.turnM (ver' := ver) (w' := w.freeze ⟨b, cur.size, none⟩ 1) hp' hmr (.inl ⟨rfl, rfl⟩) hown' rfl hvl hvr hvs (by simp [World.freeze]) (by simp [World.freeze]) (by simp [World.freeze]) (by rw [f4]; exact Nat.le_refl _) (.inl rfl)
        (fun j hj _ => f3 j (fun e => hj (by subst e; rfl)))
      obtain ⟨g2, l1, l2, u2, vs2, l3, l4, l5, l6, l7, l8, l9, l10⟩ := k2.freezeM (id := r) (ver := ver) (e := e) (size := size) (xs := xs) (by simp [upd_same])
      have hrep : Rep g2 (.slice (some r) xs) (.slice (some ⟨b, 0, none⟩) xs.length cx) := (h1'.mono k1).msFrozen l1 l3 l5 l4 l6 l7 l8 l10
      have hsh : w.shape? b = some (e, cur.size) := by simp [World.shape?, hb3]
      unfold runsTo
      have hexec : (execOp a.eval o).run P w = .ok (.value (.slice (some ⟨b, 0, none⟩) xs.length cx)) (w.freeze ⟨b, cur.size, none⟩ 1) := by
        simp [execOp, ho, hv, convert, run_underlying (sliceTy_sound ht), run_underlying heu, markStringish, hsh]
      rw [hexec]
      refine ⟨g2, k1.trans l1, ?_, hrep⟩
      have : upd (upd σ r (.mrow ver e size xs)) r (.row e size xs.length) = wr σ [(r, .row e size xs.length)] := by simp [wr, upd_twice]
      rw [← this]; exact l2

def evConvM (P : Program) (σ : Nat → Ent) (src dst : TypeId) (u : AV) : Option Step :=
  match u with
  | .ms r ver size 0 len => match σ r, sliceTy P dst with
    | .mrow ver' e size' xs, some e' => if src = dst ∧ ver' = ver ∧ size' = size ∧ len = xs.length ∧ 0 < len ∧ byteTy P e' = true then some ⟨[(r, .mrow ver e size xs)], .slice (some r) xs, [(r, .row e size xs.length)]⟩ else none
    | _, _ => none
  | _ => none
theorem evConvM_sound {P : Program} {s : Slots} {σ : Nat → Ent} {id : Nat} {o : Oper} {st : Step} {src dst : TypeId} {x : Operand} (ho : o.op = .convert src dst x) (h : evConvM P σ src dst (aeval s x) = some st) : Gives P o s σ id st := by
  unfold evConvM at h
  split at h
  · rename_i r ver size len hx
    split at h
    · rename_i ver' e size' xs e' hr hd
      split at h
      · rename_i hc
        obtain ⟨rfl, rfl, rfl, rfl, h5, h6⟩ := hc
        cases h
        exact ⟨holds_convM ho hd h6 hx h5, fun p hp => by simp at hp; subst hp; exact hr⟩
      · cases h
    · cases h
  · cases h
attribute [go_sem] evConvM
section
variable {P : Program} {ops : Array Oper} {m i n : Nat} {T : Trace} {k : Cfg → Trace → Prop} {op : Op} {ty : TypeId} {pos : String} {after : Array Edge} {r : List Oper} {s : Slots} {σ : Nat → Ent}
theorem go_conv {t : Tmp} {src dst : TypeId} {x : Operand} {v : AV} {p q : Nat × Ent} (he : evConvM P σ src dst (aeval s x) = some ⟨[p], v, [q]⟩) (h : aops P ops m r (i + 1) ((i, [p], [q]) :: T) k ⟨upd s t v, upd σ q.1 q.2, n⟩) : aops P ops m (⟨some t, .convert src dst x, ty, pos, after, none⟩ :: r) i T k ⟨s, σ, n⟩ :=
  go_own (st := ⟨[p], v, [q]⟩) (fun o ho => evConvM_sound ho he) h
end

/-! ### s[l:h:m] of a row that is written: what is asked of the bounds alone -/
theorem run_bounds4 {P : Program} {s : Slots} {a : Act} {g : Ghost} {len cap l h m : Nat} {lo hi mx : Option Operand} (hl : bnd s 0 lo = some l) (hh : bnd s len hi = some h) (hm : bnd s cap mx = some m) (hx : mx.isSome = true) (hy : hi.isSome = true) (hr : ∀ x, lo = some x → Rep g (aeval s x) (a.eval x)) (hr' : ∀ x, hi = some x → Rep g (aeval s x) (a.eval x)) (hr'' : ∀ x, mx = some x → Rep g (aeval s x) (a.eval x))
    (h1 : l ≤ h) (h2 : h ≤ m) (h3 : m ≤ cap) (isSlice : Bool) (w : World) : (Instr.sliceBounds isSlice len cap (lo.map a.eval) (hi.map a.eval) (mx.map a.eval)).run P w = .ok (l, h, m) w := by
  rcases run_bnd hm hr'' with ⟨rfl, rfl⟩ | ⟨x2, k2, n2, rfl, he2, h02, rfl⟩
  · simp at hx
  · rcases run_bnd hh hr' with ⟨rfl, rfl⟩ | ⟨x, k, n, rfl, he, h0, hn⟩
    · simp at hy
    · rcases run_bnd hl hr with ⟨rfl, rfl⟩ | ⟨x', k', n', rfl, he', h0', rfl⟩
      · simp [Instr.sliceBounds, he, he2, run_sliceBound w k2 n2 cap _ h02 (by omega), hn, run_sliceBound w k n n2.toNat _ h0 (by omega)]
      · simp [Instr.sliceBounds, he, he', he2, run_sliceBound w k2 n2 cap _ h02 (by omega), hn, run_sliceBound w k n n2.toNat _ h0 (by omega), run_sliceBound w k' n' h _ h0' (by omega)]

theorem holds_slice3_ms {P : Program} {o : Oper} {s : Slots} {id : Nat} {t e : TypeId} {x mx : Operand} {lo hi : Option Operand} {r ver size size' l0 len l h m : Nat} (ho : o.op = .slice t x lo hi (some mx)) (ht : sliceTy P t = some e) (hs : sizeIs P e size' = true) (hx : aeval s x = .ms r ver size l0 len)
    (hl : bnd s 0 lo = some l) (hh : bnd s 0 hi = some h) (hm : bnd s 0 (some mx) = some m) (hy : hi.isSome = true) (h1 : l ≤ h) (h2 : h ≤ m) (h3 : m ≤ len) : OpHolds P o s id [] .any [] :=
  holds_pure fun g w a hr => by
    have h4 := hr x (by simp [ho, Op.operands])
    rw [hx] at h4
    have hlo : ∀ x, lo = some x → Rep g (aeval s x) (a.eval x) := fun x hx => hr x (by simp [ho, Op.operands, hx])
    have hhi : ∀ x, hi = some x → Rep g (aeval s x) (a.eval x) := fun x hx => hr x (by simp [ho, Op.operands, hx])
    have hmx : ∀ x, some mx = some x → Rep g (aeval s x) (a.eval x) := fun x hx => hr x (by simp [ho, Op.operands]; simp at hx; simp [hx])
    generalize hv : a.eval x = v at h4
    obtain ⟨ie, hie, hsi⟩ := sizeIs_sound hs
    cases h4 with
    | ms _ _ _ _ _ ver' u A c hmr hv' hlx hcx hsub =>
      have hhi' : hi = some (hi.get hy) := by simp
      have e0 : bnd s len hi = some h := by rw [hhi'] at hh ⊢; exact hh
      have e1 : bnd s c (some mx) = some m := hm
      have hb := run_bounds4 (P := P) hl e0 e1 rfl hy hlo hhi hmx h1 h2 (by omega : m ≤ c) true w
      simp only [Option.map_some] at hb
      refine ⟨.slice (if m = l then A else A.map (·.add (l * size'))) (h - l) (m - l), ?_, .any _ rfl⟩
      · simp only [execOp, ho, Sem.run_bind, Instr.sliceAt, run_underlying (sliceTy_sound ht), Result.andThen_ok, hv, Instr.slice, Option.map_some, hb, sizeOf, typeInfo, run_program, hie, Sem.run_pure, hsi]

def evSlice3 (P : Program) (s : Slots) (t : TypeId) (u : AV) (lo hi : Option Operand) (mx : Operand) : Option Step :=
  match u with
  | .ms _ _ _ _ len => match sliceInfo P t, bnd s 0 lo, bnd s 0 hi, bnd s 0 (some mx) with
    | some _, some l, some h, some m => if hi.isSome = true ∧ l ≤ h ∧ h ≤ m ∧ m ≤ len then some ⟨[], .any, []⟩ else none
    | _, _, _, _ => none
  | _ => none
theorem evSlice3_sound {P : Program} {s : Slots} {σ : Nat → Ent} {id : Nat} {o : Oper} {st : Step} {t : TypeId} {x mx : Operand} {lo hi : Option Operand} (ho : o.op = .slice t x lo hi (some mx)) (h : evSlice3 P s t (aeval s x) lo hi mx = some st) : Gives P o s σ id st := by
  unfold evSlice3 at h
  split at h
  · rename_i hx
    split at h
    · rename_i hs hl hh hm
      split at h
      · rename_i hc
        cases h
        obtain ⟨k1, k2, k3, k4, k5, k6⟩ := sliceInfo_sound hs
        exact .mk0 (holds_slice3_ms ho k1 k2 hx hl hh hm hc.1 hc.2.1 hc.2.2.1 hc.2.2.2)
      · cases h
    · cases h
  · cases h
attribute [go_sem] evSlice3
section
variable {P : Program} {ops : Array Oper} {m i n : Nat} {T : Trace} {k : Cfg → Trace → Prop} {op : Op} {ty : TypeId} {pos : String} {after : Array Edge} {r : List Oper} {s : Slots} {σ : Nat → Ent}
theorem go_slice3 {t : Tmp} {t' : TypeId} {x mx : Operand} {lo hi : Option Operand} {v : AV} (he : evSlice3 P s t' (aeval s x) lo hi mx = some ⟨[], v, []⟩) (h : aops P ops m r (i + 1) T k ⟨upd s t v, σ, n⟩) : aops P ops m (⟨some t, .slice t' x lo hi (some mx), ty, pos, after, none⟩ :: r) i T k ⟨s, σ, n⟩ :=
  go_own (st := ⟨[], v, []⟩) (fun o ho => evSlice3_sound ho he) h
end

/-! ### append of a part of a row to a first part of the same row (slices.Delete), and what lies behind a slice -/
theorem holds_append_self {P : Program} {o : Oper} {s : Slots} {id : Nat} {t e : TypeId} {size r ver k lo m : Nat} {x y : Operand} {xs : List AV} (ho : o.op = .call { callee := .builtin .append, args := #[x, y], argTypes := #[t, t] }) (ht : sliceTy P t = some e) (hs : sizeIs P e size = true)
    (hx : aeval s x = .ms r ver size 0 k) (hy : aeval s y = .ms r ver size lo m) (hlo : lo + m ≤ xs.length) (hkm : k + m ≤ xs.length) (hcell : xs.all (fun x => x.cell) = true) :
    OpHolds P o s id [(r, .mrow ver e size xs)] (.ms r ver size 0 (k + m)) [(r, .mrow ver e size (xs.take k ++ (xs.drop lo).take m ++ xs.drop (k + m)))] := by
  refine ⟨fun p hp => by simp at hp; subst hp; simp, fun q hq => .inr ⟨(r, .mrow ver e size xs), by simp, by simp at hq; subst hq; rfl⟩, fun W0 g σ n w a hS hr _ _ hp => ?_⟩
  have h1 := hr x (by simp [ho, Op.operands, Call.operands])
  have h2 := hr y (by simp [ho, Op.operands, Call.operands])
  rw [hx] at h1
  rw [hy] at h2
  have hp' : σ r = .mrow ver e size xs := hp (r, .mrow ver e size xs) (by simp)
  obtain ⟨cs, he⟩ := execOp_builtin (P := P) (a := a) ho w
  obtain ⟨u, vs, hmr, hsl, hvl, hvr, hvs, hown⟩ := hS.mrowAt hp'
  obtain ⟨ie, hie, hsi⟩ := sizeIs_sound hs
  have hdr : ∀ v ∈ vs.drop lo, v.cells.size = size := fun v hv => hvs v (List.mem_of_mem_drop hv)
  obtain ⟨s1, s2, s3, s4, s5⟩ := spliced (ys := xs.drop lo) (us := vs.drop lo) (lo := k) (m := m) hvl (by simp [hvl]) hvr (fun i x v hx hv => by rw [List.getElem?_drop] at hx hv; exact hvr _ x v hx hv) hvs hdr hkm (by simp; omega)
  generalize hv : a.eval x = v at h1
  generalize hw : a.eval y = yv at h2
  have hnews : flat ((vs.drop lo).take m) = ((flat vs).drop (lo * size)).take (m * size) := by rw [flat_take _ size hdr, flat_drop _ size hvs]
  have hfl : (flat ((vs.drop lo).take m)).length = m * size := by
    rw [flat_length _ size (fun v hv => hdr v (List.mem_of_mem_take hv)), List.length_take, List.length_drop, hvl, Nat.min_eq_left (by omega)]
  have hone : ∀ q ∈ flat ((vs.drop lo).take m), q.oneCell' = true := by
    intro q hq
    obtain ⟨v, hv, hq⟩ := mem_flat.1 hq
    have hvm : v ∈ vs := List.mem_of_mem_drop (List.mem_of_mem_take hv)
    obtain ⟨j, hj⟩ := List.getElem?_of_mem hvm
    have hlt : j < xs.length := by rw [← hvl]; exact (List.getElem?_eq_some_iff.1 hj).1
    have hc := List.all_eq_true.1 hcell xs[j] (List.getElem_mem hlt)
    exact (hvr j _ v (List.getElem?_eq_getElem hlt) hj).cell_ok hc q hq
  cases h1 with
  | ms _ _ _ _ _ ver' u' A c hm' hv' hl hc h =>
    rw [hmr] at hm'; cases hm'
    cases h2 with
    | ms _ _ _ _ _ ver' u' B d hm' hv' hl2 hc2 h2 =>
      rw [hmr] at hm'; cases hm'
      obtain ⟨A0, n0, c0, rfl, j1, j2, j3⟩ := h rfl
      obtain ⟨rfl, rfl⟩ := j2 rfl
      obtain ⟨A1, n1, c1, hu1, j4, j5, j6⟩ := h2 rfl
      simp only [Value.slice.injEq] at hu1
      obtain ⟨rfl, rfl, rfl⟩ := hu1
      simp only [slen] at hsl
      subst hsl
      have hnc : xs.length ≤ c := by
        rcases hown.2 with ⟨h0, h00⟩ | ⟨b', cap, cur, fz, hb1, hb2, hb3, hb4, hb5, hb6, hb7, hb8⟩
        · omega
        · simp at hb1; obtain ⟨_, rfl⟩ := hb1; exact hb5
      unfold runsTo
      by_cases hm0 : m = 0
      · subst hm0
        have hrun := run_append_none' (P := P) (w := w) (t := t) (ty := o.type) (sliceTy_sound ht) hie (B := A) (n := k) (cap := c) hl (A := B) (c := d)
        have hexec : (execOp a.eval o).run P w = .ok (.value (.slice A k c)) w := by
          rw [he]
          simp [builtin, hv, hw, hrun]
        rw [hexec]
        have e1 : xs.take k ++ (xs.drop lo).take 0 ++ xs.drop (k + 0) = xs := by simp
        have e2 : upd σ r (.mrow ver e size xs) = σ := by
          funext i
          by_cases hi : i = r
          · subst hi; rw [upd_same, hp']
          · rw [upd_ne _ _ _ _ hi]
        refine ⟨g, g.le_refl, ?_, .ms r ver size 0 k ver _ _ c hmr hv' hl hc fun _ => ⟨_, _, _, rfl, j1, fun _ => ⟨rfl, rfl⟩, j3⟩⟩
        show Sim W0 g (upd σ r _) n w
        rw [e1, e2]; exact hS
      · obtain ⟨b, rfl, rfl⟩ := j6 (by omega)
        obtain ⟨w', hst, l1, l2, l3, l4, l5, l6⟩ := row_written (P := P) (off := k * size) (news := flat ((vs.drop lo).take m)) hown (by
          rw [hfl, hown.1, ← Nat.add_mul]; exact Nat.mul_le_mul_right _ (by omega)) hone
        rw [← s5] at l1
        obtain ⟨g', hle, hS', hm2, _⟩ := hS.turnM (ver' := ver) (vs' := vs.take k ++ (vs.drop lo).take m ++ vs.drop (k + m)) hp' hmr (.inl ⟨rfl, rfl⟩) (by rw [s2]; exact l1) (by simp only [slen]; rw [s2]) s1 s3 s4 l2 l3 l4 l5 (.inl rfl) (fun j hj _ => l6 j (fun e => hj (by rw [e]; rfl)))
        have hcells : ∀ (j : Nat) (u : Value), (flat ((vs.drop lo).take m))[j]? = some u → w.cell? ((⟨b, lo * size, none⟩ : Addr).add j) = some u := fun j u hu => by
          rw [Addr.add_lit]
          rw [hnews, List.getElem?_take, List.getElem?_drop] at hu
          split at hu
          · exact hown.cells (g := b) rfl _ u hu
          · cases hu
        rcases hown.2 with ⟨h0, h00⟩ | ⟨b', cap, cur, fz, hb1, hb2, hb3, hb4, hb5, hb6, hb7, hb8⟩
        · simp at h0
        · simp at hb1
          obtain ⟨rfl, rfl⟩ := hb1
          have hrow := run_append_roomF (P := P) w t o.type e ie (sliceTy_sound ht) hie b k c cur fz hb3 hb4 ⟨b, lo * size, none⟩ m d (flat ((vs.drop lo).take m)) (by rw [hfl, hsi]) hcells hone (by omega) (by rw [hsi, hfl, hb7, ← Nat.add_mul]; exact Nat.mul_le_mul_right _ (by omega))
          have hst2 := run_storeCells_fz (P := P) b (k * size) e fz (flat ((vs.drop lo).take m)) 0 cur w hb3 hb4 (by rw [hfl, hb7, Nat.add_zero, ← Nat.add_mul]; exact Nat.mul_le_mul_right _ (by omega)) hone
          rw [hst2] at hst
          simp only [Nat.add_zero, Result.ok.injEq, true_and] at hst
          rw [hsi, hst] at hrow
          have hexec : (execOp a.eval o).run P w = .ok (.value (.slice (some ⟨b, 0, none⟩) (k + m) c)) w' := by
            rw [he]
            simp [builtin, hv, hw, hrow]
          rw [hexec]
          exact ⟨g', hle, hS', .ms r ver size 0 (k + m) ver _ _ c hm2 (Nat.le_refl _) (by omega) hc fun _ => ⟨_, _, _, rfl, by omega, fun _ => ⟨rfl, rfl⟩, fun _ => ⟨b, rfl, by simp⟩⟩⟩

/-- s[l:h] of a first part of a row, h at most the row's length. -/
theorem holds_slice_beyond {P : Program} {o : Oper} {s : Slots} {id : Nat} {t e : TypeId} {x y : Operand} {lo : Option Operand} {r ver size len l h : Nat} {xs : List AV} (ho : o.op = .slice t x lo (some y) none) (ht : sliceTy P t = some e) (hs : sizeIs P e size = true) (hx : aeval s x = .ms r ver size 0 len)
    (hl : bnd s 0 lo = some l) (hh : bnd s 0 (some y) = some h) (h1 : l ≤ h) (h2 : h ≤ xs.length) : OpHolds P o s id [(r, .mrow ver e size xs)] (.ms r ver size l (h - l)) [] := by
  refine holds_read (fun p hp => by simp at hp; subst hp; simp) fun W0 g σ N w a hS hr hp => ?_
  have h3 := hr x (by simp [ho, Op.operands])
  have hlo : ∀ x, lo = some x → Rep g (aeval s x) (a.eval x) := fun x hx => hr x (by simp [ho, Op.operands, hx])
  have hhi : ∀ x, some y = some x → Rep g (aeval s x) (a.eval x) := fun x hx => hr x (by simp [ho, Op.operands]; simp at hx; simp [hx])
  rw [hx] at h3
  have hp' : σ r = .mrow ver e size xs := hp (r, .mrow ver e size xs) (by simp)
  obtain ⟨u, vs, hmr, hlen, hvl, hvr, hvs, hown⟩ := hS.mrowAt hp'
  obtain ⟨ie, hie, hsi⟩ := sizeIs_sound hs
  generalize hv : a.eval x = v at h3
  cases h3 with
  | ms _ _ _ _ _ ver' u' A c hm' hv' hlc hc hM =>
    rw [hmr] at hm'; cases hm'
    obtain ⟨A0, n0, c0, rfl, j1, j2, j3⟩ := hM rfl
    obtain ⟨rfl, rfl⟩ := j2 rfl
    simp only [slen] at hlen
    subst hlen
    have hnc : xs.length ≤ c := by
      rcases hown.2 with ⟨h0, h00⟩ | ⟨b', cap, cur, fz, hb1, hb2, hb3, hb4, hb5, hb6, hb7, hb8⟩
      · omega
      · simp at hb1; obtain ⟨_, rfl⟩ := hb1; exact hb5
    have hh' : bnd s len (some y) = some h := hh
    have hb := run_bounds (P := P) hl hh' hlo hhi h1 (by omega : h ≤ c) true w
    simp only [Option.map_some] at hb
    refine ⟨.slice (if c = l then A else A.map (·.add (l * size))) (h - l) (c - l), ?_, .ms r ver size l (h - l) ver _ _ (c - l) hmr (Nat.le_refl _) (by omega) (by omega) fun _ => ⟨A, _, c, rfl, by omega, fun hz => ?_, fun hz => ?_⟩⟩
    · simp only [execOp, ho, Sem.run_bind, Instr.sliceAt, run_underlying (sliceTy_sound ht), Result.andThen_ok, hv, Instr.slice, Option.map_none, Option.map_some, hb, sizeOf, typeInfo, run_program, hie, Sem.run_pure, hsi]
    · subst hz
      refine ⟨?_, by omega⟩
      split
      · rfl
      · cases A <;> simp [Addr.add]
    · have hA : ∃ b, A = some ⟨b, 0, none⟩ := by
        rcases hown.2 with ⟨h0, h00⟩ | ⟨b', cap, cur, fz, hb1, hb2, hb3, hb4, hb5, hb6, hb7, hb8⟩
        · omega
        · simp at hb1; obtain ⟨rfl, _⟩ := hb1; exact ⟨_, rfl⟩
      obtain ⟨b, rfl⟩ := hA
      refine ⟨b, rfl, ?_⟩
      rw [if_neg (by omega)]
      simp [Addr.add_lit]

def evAppendSelf (P : Program) (σ : Nat → Ent) (t : TypeId) (u v : AV) : Option Step :=
  match u, v with
  | .ms r ver size 0 k, .ms r' ver' size' lo m => match σ r, sliceInfo P t with
    | .mrow v2 e size2 xs, some (e', size3, _, _) => if r' = r ∧ ver' = ver ∧ size' = size ∧ v2 = ver ∧ size2 = size ∧ e' = e ∧ size3 = size ∧ lo + m ≤ xs.length ∧ k + m ≤ xs.length ∧ xs.all (fun x => x.cell) = true then some ⟨[(r, .mrow ver e size xs)], .ms r ver size 0 (k + m), [(r, .mrow ver e size (xs.take k ++ (xs.drop lo).take m ++ xs.drop (k + m)))]⟩ else none
    | _, _ => none
  | _, _ => none
def evBeyond (P : Program) (s : Slots) (σ : Nat → Ent) (t : TypeId) (u : AV) (lo : Option Operand) (y : Operand) : Option Step :=
  match u with
  | .ms r ver size 0 _ => match σ r, sliceInfo P t, bnd s 0 lo, bnd s 0 (some y) with
    | .mrow v2 e size2 xs, some (e', size3, _, _), some l, some h => if v2 = ver ∧ size2 = size ∧ e' = e ∧ size3 = size ∧ l ≤ h ∧ h ≤ xs.length then some ⟨[(r, .mrow ver e size xs)], .ms r ver size l (h - l), []⟩ else none
    | _, _, _, _ => none
  | _ => none
theorem evAppendSelf_sound {P : Program} {s : Slots} {σ : Nat → Ent} {id : Nat} {o : Oper} {st : Step} {t : TypeId} {x y : Operand} (ho : o.op = .call { callee := .builtin .append, args := #[x, y], argTypes := #[t, t] }) (h : evAppendSelf P σ t (aeval s x) (aeval s y) = some st) : Gives P o s σ id st := by
  unfold evAppendSelf at h
  split at h
  · rename_i hx hy
    split at h
    · rename_i hr hs
      split at h
      · rename_i hc
        obtain ⟨rfl, rfl, rfl, rfl, rfl, rfl, rfl, h8, h9, h10⟩ := hc
        cases h
        obtain ⟨k1, k2, k3, k4, k5, k6⟩ := sliceInfo_sound hs
        exact ⟨holds_append_self ho k1 k2 hx hy h8 h9 h10, fun p hp => by simp at hp; subst hp; exact hr⟩
      · cases h
    · cases h
  · cases h
theorem evBeyond_sound {P : Program} {s : Slots} {σ : Nat → Ent} {id : Nat} {o : Oper} {st : Step} {t : TypeId} {x y : Operand} {lo : Option Operand} (ho : o.op = .slice t x lo (some y) none) (h : evBeyond P s σ t (aeval s x) lo y = some st) : Gives P o s σ id st := by
  unfold evBeyond at h
  split at h
  · rename_i hx
    split at h
    · rename_i hr hs hl hh
      split at h
      · rename_i hc
        obtain ⟨rfl, rfl, rfl, rfl, h5, h6⟩ := hc
        cases h
        obtain ⟨k1, k2, k3, k4, k5, k6⟩ := sliceInfo_sound hs
        exact ⟨holds_slice_beyond ho k1 k2 hx hl hh h5 h6, fun p hp => by simp at hp; subst hp; exact hr⟩
      · cases h
    · cases h
  · cases h
attribute [go_sem] evAppendSelf evBeyond
section
variable {P : Program} {ops : Array Oper} {m i n : Nat} {T : Trace} {k : Cfg → Trace → Prop} {op : Op} {ty : TypeId} {pos : String} {after : Array Edge} {r : List Oper} {s : Slots} {σ : Nat → Ent}
theorem go_appself {t : Tmp} {x y : Operand} {t' : TypeId} {v : AV} {p q : Nat × Ent} (he : evAppendSelf P σ t' (aeval s x) (aeval s y) = some ⟨[p], v, [q]⟩) (h : aops P ops m r (i + 1) ((i, [p], [q]) :: T) k ⟨upd s t v, upd σ q.1 q.2, n⟩) :
    aops P ops m (⟨some t, .call { callee := .builtin .append, args := #[x, y], argTypes := #[t', t'] }, ty, pos, after, none⟩ :: r) i T k ⟨s, σ, n⟩ :=
  go_own (st := ⟨[p], v, [q]⟩) (fun o ho => evAppendSelf_sound ho he) h
theorem go_beyond {t : Tmp} {x y : Operand} {lo : Option Operand} {t' : TypeId} {v : AV} {p : Nat × Ent} (he : evBeyond P s σ t' (aeval s x) lo y = some ⟨[p], v, []⟩) (h : aops P ops m r (i + 1) ((i, [p], []) :: T) k ⟨upd s t v, σ, n⟩) :
    aops P ops m (⟨some t, .slice t' x lo (some y) none, ty, pos, after, none⟩ :: r) i T k ⟨s, σ, n⟩ :=
  go_own (st := ⟨[p], v, []⟩) (fun o ho => evBeyond_sound ho he) h
end

/-! ### A package-level array that is only read -/
/-- The entity 'd' is what the package-level variable 'h' reads as. -/
inductive GlobAt (d h : Nat) : Prop where
  | mk
theorem holds_indexAddr_glob {P : Program} {o : Oper} {s : Slots} {id : Nat} {t e : TypeId} {x i : Operand} {len size d h : Nat} {xs : List AV} {y : AV} {k : IntKind} {n : Int} (ho : o.op = .indexAddr t x i) (ht : arrTy P t = some (len, e)) (hs : sizeIs P e size = true) (hx : aeval s x = .lit (.pointer (some ⟨h, 0, none⟩)))
    (hi : aeval s i = .lit (.int k n)) (hn : 0 ≤ n) (hlt : n.toNat < len) (hy : xs[n.toNat]? = some y) (hk : AV.szl (xs.take n.toNat) = n.toNat * size) : OpHolds P o s id [(d, .glob h (.agg xs))] (.view y) [] := by
  refine holds_read (fun p hp => by simp at hp; subst hp; simp) fun W0 g σ N w a hS hr hp => ?_
  have h1 := hr x (by simp [ho, Op.operands])
  have h2 := hr i (by simp [ho, Op.operands])
  rw [hx] at h1
  rw [hi] at h2
  have e1 := rep_lit_inv h1
  have e2 := rep_lit_inv h2
  have hE := hS.ents d
  have hp' : σ d = .glob h (.agg xs) := hp (d, .glob h (.agg xs)) (by simp)
  rw [hp'] at hE
  obtain ⟨_, _, _, _, hv⟩ := hE
  obtain ⟨ie, hie, hsz⟩ := sizeIs_sound hs
  generalize hpv : (Value.pointer (some ⟨h, 0, none⟩)) = pv at hv
  cases hv with
  | view _ v b off hvr hc =>
    simp only [Value.pointer.injEq, Option.some.injEq, Addr.mk.injEq, and_true] at hpv
    obtain ⟨rfl, rfl⟩ := hpv
    obtain ⟨u, hu, _, hcu⟩ := hvr.get (path := [n.toNat]) (y := y) (by simp [AV.get, hy])
    have : n < (len : Int) := by omega
    refine ⟨.pointer (some ⟨h, 0 + n.toNat * size, none⟩), ?_, .view y u h _ hu fun j x hx => ?_⟩
    · simp [execOp, ho, e1, e2, Instr.indexAt, asIntOf, run_underlying (arrTy_sound ht), Instr.sureAddr, sizeOf, typeInfo, hie, hsz, Addr.add_lit, hn, this]
    · have := hc _ _ (hcu j x hx)
      simp only [AV.offs, hy, Nat.add_zero, hk] at this
      rw [← this]; congr 1; omega

def evGlobIdx (P : Program) (σ : Nat → Ent) (d h : Nat) (t : TypeId) (u v : AV) : Option Step :=
  match u, v, σ d with
  | .lit (.pointer (some ⟨h1, 0, none⟩)), .lit (.int _ n), .glob h2 (.agg xs) => match arrInfo P t, xs[n.toNat]? with
    | some (len, _, size), some y => if h1 = h ∧ h2 = h ∧ 0 ≤ n ∧ n.toNat < len ∧ AV.szl (xs.take n.toNat) = n.toNat * size then some ⟨[(d, .glob h (.agg xs))], .view y, []⟩ else none
    | _, _ => none
  | _, _, _ => none
theorem evGlobIdx_sound {P : Program} {s : Slots} {σ : Nat → Ent} {id : Nat} {o : Oper} {st : Step} {t : TypeId} {x i : Operand} {d h : Nat} (ho : o.op = .indexAddr t x i) (he : evGlobIdx P σ d h t (aeval s x) (aeval s i) = some st) : Gives P o s σ id st := by
  unfold evGlobIdx at he
  split at he
  · rename_i hx hi hd
    split at he
    · rename_i ha hy
      split at he
      · rename_i hc
        obtain ⟨rfl, rfl, h3, h4, h5⟩ := hc
        cases he
        obtain ⟨k1, k2⟩ := arrInfo_sound ha
        exact ⟨holds_indexAddr_glob ho k1 k2 hx hi h3 h4 hy h5, fun p hp => by simp at hp; subst hp; exact hd⟩
      · cases he
    · cases he
  · cases he
attribute [go_sem] evGlobIdx
section
variable {P : Program} {ops : Array Oper} {m i n : Nat} {T : Trace} {k : Cfg → Trace → Prop} {op : Op} {ty : TypeId} {pos : String} {after : Array Edge} {r : List Oper} {s : Slots} {σ : Nat → Ent}
theorem go_glob {t : Tmp} {x y : Operand} {t' : TypeId} {v : AV} {p : Nat × Ent} {d h : Nat} (_hG : GlobAt d h) (he : evGlobIdx P σ d h t' (aeval s x) (aeval s y) = some ⟨[p], v, []⟩) (h : aops P ops m r (i + 1) ((i, [p], []) :: T) k ⟨upd s t v, σ, n⟩) :
    aops P ops m (⟨some t, .indexAddr t' x y, ty, pos, after, none⟩ :: r) i T k ⟨s, σ, n⟩ :=
  go_own (st := ⟨[p], v, []⟩) (fun o ho => evGlobIdx_sound ho he) h
end
end Go.Ab

/- A range over a function: its record and its mark as numbered things; a call of yield (one round) by the walk of the loop's body; the statement by the contract of the function that is ranged over. -/
namespace Go.Ab
open Go.RowKit

section
variable {W0 : World} {g : Ghost} {σ : Nat → Ent} {n : Nat} {w : World}

/-- The record of a range over a function is turned. -/
theorem Sim.setLoop (h : Sim W0 g σ n w) {j l N : Nat} {r : Loop} {s : Slots} (hj : σ j = .loop l N r s) :
    ∃ T : Array Value, T.size = N ∧ (∀ t, Rep g (s t) (T.getD t undef)) ∧ w.heap[l]? = some (.loop { r with tmps := T }) ∧
      ∀ r' : Loop, Sim W0 g (upd σ j (.loop l N r' s)) n (w.putObj l (.loop { r' with tmps := T })) := by
  have he := h.ents j
  rw [hj] at he
  obtain ⟨k1, k2, k3, k4, ⟨T, k5, k6, k7⟩, k8⟩ := he
  have hl := h.lt (Ghost.blk_loc k4)
  refine ⟨T, k5, k6, k7, fun r' => ?_⟩
  have hjn : j < n := by
    rcases Nat.lt_or_ge j n with h' | h'
    · exact h'
    · rw [h.bound j h'] at hj; cases hj
  refine h.change hjn g.le_refl ⟨h.below.os, h.below.tape, h.below.output, by simpa using h.below.size, fun b hb => ?_⟩ (fun b o v hv => ?_) (fun _ _ => ⟨rfl, rfl, rfl, rfl⟩) (fun id hid b hb => ⟨⟨World.putObj_heap_other ?_, fun _ => rfl⟩, ?_⟩)
    ⟨k1, k2, k3, k4, ⟨T, k5, k6, World.putObj_heap_same hl⟩, k8⟩ (fun b hb => ?_) (by simp)
  · have := (h.fresh j l (Ghost.blk_loc k4)).1
    rw [World.putObj_heap_other (by omega)]; exact h.below.block b hb
  · have hb : b ≠ l := fun e => by rw [e, k8] at hv; cases hv
    have := h.imm b o v hv
    unfold World.cell? at this ⊢
    simp only [World.putObj_heap_other hb]
    exact this
  · rintro rfl; exact hid (h.sep id j b hb (Ghost.blk_loc k4))
  · intro e; exact hid (h.sep id j b hb e)
  · simpa using h.fresh j b hb
end

/-! ### One round -/
def sputs (s : Slots) : List Tmp → List AV → Slots
  | t :: ps, v :: vs => sputs (upd s t v) ps vs
  | _, _ => s

theorem sputs_rep {g : Ghost} {N : Nat} : ∀ (ps : List Tmp) (args : List AV) (vals : List Value) (s : Slots) (T : Array Value), args.length = ps.length → vals.length = args.length → (∀ t ∈ ps, t < N) → T.size = N →
    (∀ (i : Nat) (x : AV) (v : Value), args[i]? = some x → vals[i]? = some v → Rep g x v) → (∀ t, Rep g (s t) (T.getD t undef)) →
    ((ps.zip vals).foldl (fun (tmps : Array Value) (p : Tmp × Value) => tmps.setIfInBounds p.1 p.2) T).size = N ∧
    ∀ t, Rep g (sputs s ps args t) (((ps.zip vals).foldl (fun (tmps : Array Value) (p : Tmp × Value) => tmps.setIfInBounds p.1 p.2) T).getD t undef)
  | [], [], vals, s, T, _, hv, _, hT, _, hs => by
    match vals, hv with
    | [], _ => exact ⟨hT, hs⟩
  | t :: ps, a :: args, vals, s, T, h1, hv, hlt, hT, hr, hs => by
    match vals, hv with
    | v :: vals, hv =>
      refine sputs_rep ps args vals (upd s t a) (T.setIfInBounds t v) (by simpa using h1) (by simpa using hv) (fun u hu => hlt u (List.mem_cons_of_mem _ hu)) (by simpa using hT)
        (fun i x u hx hu => hr (i + 1) x u (by simpa using hx) (by simpa using hu)) fun u => ?_
      have ht := hlt t (List.mem_cons_self ..)
      by_cases hut : u = t
      · subst hut
        have : u < T.size := Nat.lt_of_lt_of_eq ht hT.symm
        simp [upd_same, this]
        exact hr 0 a v rfl rfl
      · rw [upd_ne _ _ _ _ hut]
        have := hs u
        simpa [Array.getElem?_setIfInBounds_ne (Ne.symm hut)] using this
  | [], _ :: _, _, _, _, h, _, _, _, _, _ => by simp at h
  | _ :: _, [], _, _, _, h, _, _, _, _, _ => by simp at h

/-- A call of the yield of the loop in block l, by its footprint. -/
def AYield (P : Program) (l : Nat) (args : List AV) (k : Nat) (pre : Foot) (v : AV) (post : Foot) : Prop :=
  (∀ p ∈ pre, p.2 ≠ .none) ∧ (∀ q ∈ post, ∃ p ∈ pre, p.1 = q.1) ∧
  ∀ (W0 : World) (g : Ghost) (σ : Nat → Ent) (n : Nat) (w : World) (vals : List Value), Sim W0 g σ n w → vals.length = args.length → (∀ (i : Nat) (x : AV) (v : Value), args[i]? = some x → vals[i]? = some v → Rep g x v) →
    σ k = .none → k < n → (∀ p ∈ pre, σ p.1 = p.2) →
    ∃ fn tmps assign body, (Instr.yield l vals.toArray).run P w = .ok (.round l fn tmps assign body) w ∧
      RoundIn Fence.wide 0 P l fn tmps assign body w fun e w' => ∃ u, e = .returned u ∧ ∃ g', g.le g' ∧ Sim W0 g' (wr σ post) n w' ∧ Rep g' v u

theorem holds_yield {P : Program} {o : Oper} {s : Slots} {id l : Nat} {x : Operand} {args : Array Operand} {ts : Array TypeId} {pre post : Foot} {v : AV} (ho : o.op = .call { callee := .value x, args := args, argTypes := ts }) (hx : aeval s x = .lit (.func (.yield l) #[] #[]))
    (h : AYield P l (args.toList.map (aeval s)) id pre v post) : OpHolds P o s id pre v post := by
  obtain ⟨hp, hq, hrun⟩ := h
  refine ⟨hp, fun q hq' => .inr (hq q hq'), fun W0 g σ n w a hS hr hf hn hpre => ?_⟩
  have h1 := hr x (by simp [ho, Op.operands, Call.operands])
  have h2 : ∀ y ∈ args, Rep g (aeval s y) (a.eval y) := fun y hy => hr y (by simp [ho, Op.operands, Call.operands, hy])
  rw [hx] at h1
  have hv := rep_lit_inv h1
  obtain ⟨fn, tmps, assign, body, hy, hR⟩ := hrun W0 g σ n w (args.toList.map a.eval) hS (by simp) (fun i y u hy hu => by
    rw [List.getElem?_map] at hy hu
    cases hz : args.toList[i]? with
    | none => rw [hz] at hy; cases hy
    | some z =>
      rw [hz] at hy hu
      cases hy; cases hu
      exact h2 z (by have := List.mem_of_getElem? hz; simpa using this)) hf hn hpre
  have hexec : (execOp a.eval o).run P w = .ok (.round l fn tmps assign body) w := by
    simp only [execOp, ho, resolve, hv, Deferred.ofValue, Sem.run_bind, Sem.run_pure, Result.andThen_ok, invoke]
    rw [← hy]
    congr 2
    simp [← Array.toList_map]
  unfold runsTo
  rw [hexec]
  exact hR

def jumpOf : AExit → Option Code
  | .normal => none
  | .exit id => some (.exit id)
  | .ret => some .ret
def goesOn : AExit → Bool
  | .normal => true
  | _ => false
/-- The record behind a round that was left so. -/
def endRec (r : Loop) (x : AExit) : Loop := { r with state := if goesOn x then .ready else .done, pending := jumpOf x }
theorem jumpOf_none (x : AExit) : (jumpOf x).isNone = goesOn x := by cases x <;> rfl

theorem AYield.of_body {P : Program} {l N : Nat} {r : Loop} {s : Slots} {j k : Nat} {args : List AV} {pre ws post : Foot} {A B : Code} {ps : List Tmp} (x : AExit) (hmix : P.follows .mixedOrders = true)
    (hst : r.state = .ready) (hps : r.params.toList = ps) (hA : r.assign = A) (hB : r.body = B) (hargs : args.length = ps.length) (hlt : ∀ t ∈ ps, t < N)
    (hokA : codeOK N A = true) (hokB : codeOK N B = true) (hnA : noRange A = true) (hnB : noRange B = true)
    (hpre : ∀ p ∈ pre, p.2 ≠ .none) (hjp : ∀ p ∈ pre, p.1 ≠ j) (hws : ∀ q ∈ ws, ∃ p ∈ pre, p.1 = q.1) (hpost : ∀ q ∈ post, ∃ p ∈ pre, p.1 = q.1)
    (h : ∀ (σ : Nat → Ent) (n : Nat), (∀ p ∈ pre, σ p.1 = p.2) → (∀ p ∈ pre, p.1 < n) → σ j = .loop l N r s → j < n → σ k = .none → k < n → (∀ id, n ≤ id → σ id = .none) →
      renF (rn n k none) ws = post ∧
      aw P N A (fun e c => e = .normal ∧ c.σ j = .loop l N r s ∧
        aw P N B (fun e c' => e = x ∧ ∀ id, id < n → c'.σ id = wr (upd σ j (.loop l N { r with state := .busy } s)) ws id) ⟨c.s, upd c.σ j (.loop l N { r with state := .busy } s), c.n⟩) ⟨sputs s ps args, σ, n⟩) :
    AYield P l args k ((j, .loop l N r s) :: pre) (.lit (.bool (goesOn x))) ((j, .loop l N (endRec r x) s) :: post) := by
  subst hA
  subst hB
  have hpre' : ∀ p ∈ (j, Ent.loop l N r s) :: pre, p.2 ≠ .none := fun p hp => by
    rcases List.mem_cons.1 hp with rfl | hp
    · simp
    · exact hpre p hp
  have main : ∀ (W0 : World) (g : Ghost) (σ : Nat → Ent) (n : Nat) (w : World) (vals : List Value), Sim W0 g σ n w → vals.length = args.length → (∀ (i : Nat) (x : AV) (v : Value), args[i]? = some x → vals[i]? = some v → Rep g x v) →
      σ k = .none → k < n → (∀ p ∈ (j, Ent.loop l N r s) :: pre, σ p.1 = p.2) → renF (rn n k none) ws = post ∧
      ∃ fn tmps assign body, (Instr.yield l vals.toArray).run P w = .ok (.round l fn tmps assign body) w ∧
        RoundIn Fence.wide 0 P l fn tmps assign body w fun e w' => ∃ u, e = .returned u ∧ ∃ g', g.le g' ∧ Sim W0 g' (wr σ ((j, .loop l N (endRec r x) s) :: post)) n w' ∧ Rep g' (.lit (.bool (goesOn x))) u := by
    intro W0 g σ n w vals hS hvl hvr hk hkn hp
    have hp2 : ∀ p ∈ pre, σ p.1 = p.2 := fun p hpm => hp p (List.mem_cons_of_mem _ hpm)
    have hj : σ j = .loop l N r s := hp _ (List.mem_cons_self ..)
    have hltn : ∀ i, σ i ≠ .none → i < n := fun i hi => by
      rcases Nat.lt_or_ge i n with h' | h'
      · exact h'
      · exact absurd (hS.bound i h') hi
    have hjn : j < n := hltn j (by rw [hj]; simp)
    obtain ⟨hren, haw⟩ := h σ n hp2 (fun p hpm => hltn p.1 (by rw [hp2 p hpm]; exact hpre p hpm)) hj hjn hk hkn hS.bound
    refine ⟨hren, ?_⟩
    obtain ⟨T, hT, hTs, hheap, _⟩ := hS.setLoop hj
    have hsz : vals.toArray.size = r.params.size := by
      have : r.params.size = ps.length := by rw [← hps]; simp
      simp; omega
    have hy := run_yield (P := P) (args := vals.toArray) hheap hsz
    refine ⟨_, _, _, _, hy, roundIn_of_wpIn trivial ?_⟩
    obtain ⟨q1, q2⟩ := sputs_rep ps args vals s T hargs hvl hlt hT hvr hTs
    have hfold : (r.params.zip vals.toArray).foldl (fun tmps (t, a) => tmps.setIfInBounds t a) T = (ps.zip vals).foldl (fun (tmps : Array Value) (p : Tmp × Value) => tmps.setIfInBounds p.1 p.2) T := by
      rw [← Array.foldl_toList, Array.toList_zip, hps]
    have hSA : SimA W0 g N ⟨sputs s ps args, σ, n⟩ { tmps := (r.params.zip vals.toArray).foldl (fun tmps (t, a) => tmps.setIfInBounds t a) T, defers := [] } w := by
      rw [hfold]; exact ⟨hS, q1, q2⟩
    show (r.assign).wpIn (Fence.wide.inRound l) 0 P _ _ w
    refine wpIn_mono (haw hokA hmix (some l) (.inr hnA) W0 g _ w hSA) fun e a1 w1 ⟨c1, g1, hle1, hS1, _, hq⟩ => ?_
    cases e with
    | normal =>
      obtain ⟨_, hj1, haw2⟩ := hq
      obtain ⟨T1, hT1, hTs1, hheap1, hset1⟩ := hS1.sim.setLoop hj1
      have hSb := hset1 { r with state := .busy }
      refine ⟨_, run_beginRound (P := P) hheap1 hst, ?_⟩
      show (r.body).wpIn (Fence.wide.inRound l) 0 P _ _ _
      have hSA2 : SimA W0 g1 N ⟨c1.s, upd c1.σ j (.loop l N { r with state := .busy } s), c1.n⟩ a1 (w1.putObj l (.loop { { r with tmps := T1 } with state := .busy })) := ⟨hSb, hS1.size, hS1.slots⟩
      refine wpIn_mono (haw2 hokB hmix (some l) (.inr hnB) W0 g1 _ _ hSA2) fun e a2 w2 ⟨c2, g2, hle2, hS2, _, hq2⟩ => ?_
      have fin : ∀ x' : AExit, (x' = x ∧ ∀ id, id < n → c2.σ id = wr (upd σ j (.loop l N { r with state := .busy } s)) ws id) →
          ∃ v w', (Instr.endRound l (jumpOf x')).run P w2 = .ok v w' ∧ ∃ u, Ending.returned v = .returned u ∧ ∃ g', g.le g' ∧ Sim W0 g' (wr σ ((j, .loop l N (endRec r x) s) :: post)) n w' ∧ Rep g' (.lit (.bool (goesOn x))) u := by
        rintro x' ⟨rfl, hag⟩
        have hjw : ∀ q ∈ ws, q.1 ≠ j := fun q hq => by obtain ⟨p, hp1, hp2⟩ := hws q hq; rw [← hp2]; exact hjp p hp1
        have hj2 : c2.σ j = .loop l N { r with state := .busy } s := by rw [hag j hjn, wr_other _ _ _ hjw, upd_same]
        obtain ⟨T2, hT2, hTs2, hheap2, hset2⟩ := hS2.sim.setLoop hj2
        have hSe := hset2 (endRec r x')
        have hend := run_endRound (P := P) (jumpOf x') hheap2
        rw [jumpOf_none] at hend
        refine ⟨_, _, hend, _, rfl, ?_⟩
        obtain ⟨g3, hle3, hS3, hrep3, _, _, hid⟩ := hS.leave (σ' := upd c2.σ j (.loop l N (endRec r x') s)) (n' := c2.n) hSe (hle1.trans hle2) hk hkn (ws := (j, .loop l N (endRec r x') s) :: ws) (fresh := none) (post := renF (rn n k none) ((j, .loop l N (endRec r x') s) :: ws))
          (fun id hidn => by
            rw [wr_cons, wr_upd_comm _ _ _ _ hjw]
            by_cases hij : id = j
            · subst hij; rw [upd_same, upd_same]
            · rw [upd_ne _ _ _ _ hij, upd_ne _ _ _ _ hij, hag id hidn, wr_upd_comm _ _ _ _ hjw, upd_ne _ _ _ _ hij])
          (fun q hq => by
            rcases List.mem_cons.1 hq with rfl | hq
            · simp only; rw [hj]; simp
            · obtain ⟨p, hp1, hp2'⟩ := hws q hq; rw [← hp2', hp2 p hp1]; exact hpre p hp1) rfl
        refine ⟨g3, hle3, ?_, .lit _ rfl⟩
        have hse : (fun t => (s t).ren (rn n k none)) = s := funext fun t => hid _ _ (hTs t)
        have : renF (rn n k none) ((j, .loop l N (endRec r x') s) :: ws) = (j, .loop l N (endRec r x') s) :: post := by
          rw [← hren]
          simp only [renF, List.map_cons, Ent.ren, hse]
        rw [this] at hS3
        exact hS3
      cases e with
      | normal => exact fin .normal hq2
      | ret => exact fin .ret hq2
      | exit id => exact fin (.exit id) hq2
      | goto => exact hq2.elim
      | panic => exact hq2.elim
      | outgrown => exact hq2.elim
    | exit id => exact absurd hq.1 (by simp)
    | ret => exact absurd hq.1 (by simp)
    | goto => exact hq.elim
    | panic => exact hq.elim
    | outgrown => exact hq.elim
  refine ⟨hpre', fun q hq => ?_, fun W0 g σ n w vals h1 h2 h3 h4 h5 h6 => (main W0 g σ n w vals h1 h2 h3 h4 h5 h6).2⟩
  rcases List.mem_cons.1 hq with rfl | hq
  · exact ⟨_, List.mem_cons_self .., rfl⟩
  · obtain ⟨p, hp1, hp2⟩ := hpost q hq
    exact ⟨p, List.mem_cons_of_mem _ hp1, hp2⟩

/-! ### The statement -/
/-! ### In a walk -/
theorem AYield.weaken {P : Program} {l k : Nat} {args args' : List AV} {pre post : Foot} {v : AV} (h : AYield P l args' k pre v post) (hle : ALe args args') : AYield P l args k pre v post := by
  obtain ⟨h1, h2, h3⟩ := h
  obtain ⟨hl, hle⟩ := hle.at
  refine ⟨h1, h2, fun W0 g σ n w vals hS hv hr hf hn hpre => h3 W0 g σ n w vals hS (by rw [hv, hl]) (fun i y v hy hv' => ?_) hf hn hpre⟩
  obtain ⟨x, hx, hxy⟩ := hle i y hy
  exact hxy g v (hr i x v hx hv')

theorem go_yieldw {P : Program} {ops : Array Oper} {m i : Nat} {r : List Oper} {T : Trace} {k : Cfg → Trace → Prop} {s : Slots} {σ : Nat → Ent} {n : Nat} {ty : TypeId} {pos : String} {after : Array Edge} {t : Tmp} {x : Operand} {args : Array Operand} {ts : Array TypeId} {l : Nat} {pre post : Foot} {v : AV} {as : List AV}
    (hc : AYield P l as (m + i) pre v post) (hx : aeval s x = .lit (.func (.yield l) #[] #[])) (hle : ALe (args.toList.map (aeval s)) as) (hp : ∀ p ∈ pre, σ p.1 = p.2)
    (h : aops P ops m r (i + 1) (addT i ⟨pre, v, post⟩ T) k ⟨upd s t v, wr σ post, n⟩) : aops P ops m (⟨some t, .call { callee := .value x, args := args, argTypes := ts }, ty, pos, after, none⟩ :: r) i T k ⟨s, σ, n⟩ := by
  rw [aops_cons, wantedG_none, aguard_true]
  exact ⟨⟨pre, v, post⟩, ⟨holds_yield rfl hx (hc.weaken hle), hp⟩, h⟩

/-- The end of a function that hands nothing back. -/
theorem go_fall {P : Program} {rs : List ResultVar} {k : Nat} {σ0 : Nat → Ent} {n0 : Nat} {pre post : Foot} {r : AV} {c : Cfg} (h : aRet P rs k σ0 n0 pre r post .ret c) : aRet P rs k σ0 n0 pre r post .normal c := by unfold aRet at h ⊢; exact h

/-- In a box: nil, as a row of its own with no element. -/
theorem go_nilrowIn {P : Program} {N : Nat} {b : Code} {Q : AExit → Cfg → Prop} {s : Slots} {σ : Nat → Ent} {n : Nat} (id : Nat) (path : List Nat) (e : TypeId) (size : Nat) {bt : TypeId} {c : AV} (hσ : σ id = .box bt c) (hc : c.get path = some .nils)
    (h : aw P N b Q ⟨s, upd (upd σ n (.row e size 0)) id (.box bt (c.put path (.slice (some n) []))), n + 1⟩) : aw P N b Q ⟨s, σ, n⟩ := by
  refine go_ghost (fun W0 g a w hS => ?_) h
  have hf : σ n = .none := hS.sim.bound n (Nat.le_refl _)
  obtain ⟨g1, hle1, hS1, hrow1, _⟩ := (hS.sim.more (n' := n + 1) (Nat.le_succ n)).addRow (k := n) (e := e) (size := size) (m := 0) (u := .slice none 0 0) (cells := []) hf (Nat.lt_succ_self n) (ownsR_nil w _ e size) rfl (fun b hb => by simp [Value.ownBlock] at hb) (fun b hb => by simp [Value.ownBlock] at hb)
  refine ⟨g1, hle1, hS.turnIn hle1 hS1 (Nat.le_succ n) hσ (by rw [upd_ne _ _ _ _ (fun e => by rw [e, hf] at hσ; cases hσ)]; exact hσ) hc (fun u hu => ?_) rfl rfl⟩
  cases hu
  exact .slice (some n) [] [] none 0 0 rfl (Nat.le_refl _) (by unfold maxLen; omega) (fun i x v h _ => by simp at h) (fun v hv => by simp at hv) (.inl rfl) (fun id hid => by cases hid; exact ⟨_, hrow1, Nat.le_refl _, fun _ => rfl⟩)

end Go.Ab

/- Loops whose slots are read as saying less at every round's head. -/
namespace Go.Ab
open Go.RowKit

/-- A slice, whosever its row is. -/
def fgv : AV → AV
  | .slice _ xs => .slice none xs
  | .nils => .slice none []
  | .clip xs => .slice none xs
  | x => x
theorem fgv_le (x : AV) : AV.le x (fgv x) := by
  cases x with
  | slice o xs => exact AV.le_own o xs
  | nils => exact AV.le_nils0
  | clip xs => exact AV.le_clip xs
  | _ => exact AV.le_refl _
@[go_sem] theorem fgv_slice (o : Option Nat) (xs : List AV) : fgv (.slice o xs) = .slice none xs := rfl
@[go_sem] theorem fgv_nils : fgv .nils = .slice none [] := rfl
@[go_sem] theorem fgv_clip (xs : List AV) : fgv (.clip xs) = .slice none xs := rfl
def fg (ts : List Nat) (s : Slots) : Slots := fun t => if ts.contains t then fgv (s t) else s t
@[go_sem] theorem fg_at (ts : List Nat) (s : Slots) (t : Nat) : fg ts s t = if ts.contains t then fgv (s t) else s t := rfl
theorem SKeep.fg {L ts : List Nat} {s s' : Slots} (hts : ts.all (fun x => L.contains x) = true) (h : SKeep L s s') : SKeep L s (fg ts s') := fun t ht => by
  have : ts.contains t = false := by
    rw [Bool.eq_false_iff]
    intro hc
    have hm : t ∈ ts := by simpa using hc
    exact ht (by have := List.all_eq_true.1 hts t hm; simpa using this)
  rw [fg_at, this]
  exact h t ht
theorem SimA.fg {W0 : World} {g : Ghost} {N : Nat} {s : Slots} {σ : Nat → Ent} {n : Nat} {a : Act} {w : World} (ts : List Nat) (h : SimA W0 g N ⟨s, σ, n⟩ a w) : SimA W0 g N ⟨Go.Ab.fg ts s, σ, n⟩ a w :=
  ⟨h.sim, h.size, fun t => by
    simp only [fg_at]
    split
    · exact fgv_le _ _ _ (h.slots t)
    · exact h.slots t⟩

/-- The first round is walked by itself. -/
theorem go_loopP {P : Program} {N : Nat} {b : Code} {Q : AExit → Cfg → Prop} {s : Slots} {σ : Nat → Ent} {n : Nat} (B bnd : Nat) (hmix : P.follows .mixedOrders = true) (hok : codeOK N b = true) (mods ents : List Nat) (I0 : Slots → (Nat → Ent) → Nat → Prop) (I : Nat → Slots → (Nat → Ent) → Nat → Prop)
    (h0 : I0 s σ n)
    (first : ∀ s' σ' n', SKeep mods s s' → EKeep bnd ents σ σ' → n ≤ n' → I0 s' σ' n' → aw P N b (aThen (fun c' => SKeep mods s c'.s ∧ EKeep bnd ents σ c'.σ ∧ n ≤ c'.n ∧ ∃ m', m' < B ∧ I m' c'.s c'.σ c'.n) Q) ⟨s', σ', n'⟩)
    (round : ∀ m s' σ' n', SKeep mods s s' → EKeep bnd ents σ σ' → n ≤ n' → I m s' σ' n' → aw P N b (aThen (fun c' => SKeep mods s c'.s ∧ EKeep bnd ents σ c'.σ ∧ n ≤ c'.n ∧ ∃ m', m' < m ∧ I m' c'.s c'.σ c'.n) Q) ⟨s', σ', n'⟩) : aw P N (.loop b) Q ⟨s, σ, n⟩ := by
  refine go_loopB bnd hmix hok mods ents (fun m s' σ' n' => (m = B ∧ I0 s' σ' n') ∨ (m < B ∧ I m s' σ' n')) ⟨B, .inl ⟨rfl, h0⟩⟩ fun m s' σ' n' k1 k2 k3 hI => ?_
  rcases hI with ⟨rfl, hI⟩ | ⟨hm, hI⟩
  · refine go_mid (first s' σ' n' k1 k2 k3 hI) fun e c' hq => ?_
    cases e with
    | normal => obtain ⟨q1, q2, q3, m', q4, q5⟩ := hq; exact ⟨q1, q2, q3, m', q4, .inr ⟨q4, q5⟩⟩
    | exit id => exact hq
    | ret => exact hq
  · refine go_mid (round m s' σ' n' k1 k2 k3 hI) fun e c' hq => ?_
    cases e with
    | normal => obtain ⟨q1, q2, q3, m', q4, q5⟩ := hq; exact ⟨q1, q2, q3, m', q4, .inr ⟨Nat.lt_trans q4 hm, q5⟩⟩
    | exit id => exact hq
    | ret => exact hq

/-! ### A part of an array that is a value -/
theorem holds_index_arr {P : Program} {o : Oper} {s : Slots} {id : Nat} {t e : TypeId} {x i : Operand} {len size : Nat} {xs : List AV} {y : AV} {k : IntKind} {n : Int} (ho : o.op = .index t x i) (ht : arrTy P t = some (len, e)) (hs : sizeIs P e size = true) (hx : aeval s x = .agg xs)
    (hi : aeval s i = .lit (.int k n)) (hn : 0 ≤ n) (hlt : n.toNat < len) (hy : xs[n.toNat]? = some y) (hk : AV.szl (xs.take n.toNat) = n.toNat * size) (hT : tyIs P e y.isAgg y.sz = true) (h1 : y.isAgg = true ∨ y.one = true) : OpHolds P o s id [] y [] :=
  holds_pure fun g w a hr => by
    have h1' := hr x (by simp [ho, Op.operands])
    have h2 := hr i (by simp [ho, Op.operands])
    rw [hx] at h1'
    rw [hi] at h2
    have e2 := rep_lit_inv h2
    generalize hv : a.eval x = v at h1'
    obtain ⟨ie, hie, hsz⟩ := sizeIs_sound hs
    cases h1' with
    | agg _ vs hvl hvr =>
      have hR : Rep g (.agg xs) (.agg (flat vs).toArray) := .agg xs vs hvl hvr
      obtain ⟨u, hu, hub, huc⟩ := hR.get (path := [n.toNat]) (y := y) (by simp [AV.get, hy])
      have ho' : (AV.agg xs).offs [n.toNat] = n.toNat * size := by simp [AV.offs, hy, hk]
      rw [ho'] at hub huc
      have hp := run_part (P := P) hu hT h1 (cs := (flat vs).toArray) (off := n.toNat * size) (fun j q hq => by simpa [cells_agg] using huc j q hq) (by simpa [cells_agg] using hub) w
      refine ⟨u, ?_, hu⟩
      have hlt' : n < (len : Int) := by omega
      simp [execOp, ho, hv, e2, Instr.index, asIntOf, run_underlying (arrTy_sound ht), hn, hlt', sizeOf, typeInfo, hie, hsz, hp]
def evIndexA (P : Program) (t : TypeId) (u v : AV) : Option AV :=
  match u, v with
  | .agg xs, .lit (.int _ n) => match arrInfo P t, xs[n.toNat]? with
    | some (len, e, size), some y => if (0 ≤ n ∧ n.toNat < len ∧ AV.szl (xs.take n.toNat) = n.toNat * size) ∧ tyInfo P e = some (y.isAgg, y.sz) ∧ (y.isAgg = true ∨ y.one = true) then some y else none
    | _, _ => none
  | _, _ => none
attribute [go_sem] evIndexA AV.one
theorem go_indexA {P : Program} {ops : Array Oper} {m i n : Nat} {T : Trace} {k : Cfg → Trace → Prop} {ty : TypeId} {pos : String} {after : Array Edge} {r : List Oper} {s : Slots} {σ : Nat → Ent} {t : Tmp} {x y : Operand} {t' : TypeId} {v : AV} (he : evIndexA P t' (aeval s x) (aeval s y) = some v)
    (h : aops P ops m r (i + 1) T k ⟨upd s t v, σ, n⟩) : aops P ops m (⟨some t, .index t' x y, ty, pos, after, none⟩ :: r) i T k ⟨s, σ, n⟩ :=
  go_own (st := ⟨[], v, []⟩) (fun o ho => by
    unfold evIndexA at he
    split at he
    · rename_i hx hi
      split at he
      · rename_i ht hy
        split at he
        · rename_i hc
          cases he
          obtain ⟨⟨c1, c2, c3⟩, c4, c5⟩ := hc
          obtain ⟨k1, k2⟩ := arrInfo_sound ht
          exact .mk0 (holds_index_arr ho k1 k2 hx hi c1 c2 hy c3 (tyInfo_sound c4).1 c5)
        · cases he
      · cases he
    · cases he) h

/-! ### Walks, and what they owe, as default arguments -/
/-- A walk as far as it goes. -/
structure Later (q : Prop) : Prop where
  out : q
theorem Wk {p q : Prop} (h : q) (h2 : Later q → p := by intro hq; (repeat (first | apply go_nil | apply go_kreg | apply go_kreg0 | apply go_kreg1 | (apply go_kregT; · (first | (simp [addT, CF, CFy, Ind, DisjF]; done) | (simp only [addT, CF, CFy, Ind]; repeat' (first | exact trivial | apply And.intro | exact Or.inl (by decide +kernel) | (refine Or.inr ⟨?_, ?_⟩ <;> (simp; try omega)))))) | apply go_then | apply go_then_exit | apply go_then_ret | apply go_blk | apply go_blk_ret | apply go_blk_here | (apply go_blk_there; · rfl) | apply go_seq | (apply go_region; · (simp only [List.length_cons, List.length_nil, Nat.reduceAdd, Nat.add_assoc]; rfl)) | apply go_skip | apply go_block | apply go_scope | apply go_label | apply go_exit | apply go_ret | (apply go_mut; (· assumption); · (simp (disch := omega) [go_sem, *, -List.reduceReplicate]; first | exact ⟨rfl, rfl⟩ | (simp [go_sem, *]; exact ⟨rfl, rfl⟩))) | (apply go_mutP; (· assumption); · (simp (disch := omega) [go_sem, *, -List.reduceReplicate]; try first | rfl | exact ⟨rfl, rfl⟩ | exact ⟨rfl, rfl, rfl⟩)) | (apply go_guard_in; (· rfl); · (simp (disch := omega) [go_sem, *, -List.reduceReplicate]; try first | rfl | omega)) | (apply go_guard_off; (· rfl); · (simp (disch := omega) [go_sem, *, -List.reduceReplicate]; try first | rfl | omega)) | (apply go_guard_no; (· rfl); · (simp (disch := omega) [go_sem, *, -List.reduceReplicate]; try rfl)) | ((first | apply go_move | apply go_assign | apply go_load | apply go_store | apply go_append | apply go_copy | apply go_copy0 | apply go_clear0 | apply go_slice3 | apply go_indexA); · (simp (disch := omega) [go_sem, *, -List.reduceReplicate]; try first | rfl | exact ⟨rfl, rfl⟩ | exact ⟨rfl, rfl, rfl⟩)) | ((first | apply go_loadv | apply go_append0 | apply go_beyond); · (simp (disch := omega) [go_sem, *, -List.reduceReplicate]; try first | rfl | exact ⟨rfl, rfl⟩ | exact ⟨rfl, rfl, rfl⟩)) | (apply go_appself; · (simp (disch := omega) [go_sem, *, -List.reduceReplicate]; try first | rfl | exact ⟨rfl, rfl⟩ | exact ⟨rfl, rfl, rfl⟩)) | ((first | (apply go_appendz; · rfl) | (apply go_new; · rfl) | (apply go_pure; · rfl)); · (simp (disch := omega) [go_sem, *, -List.reduceReplicate]; try first | rfl | exact ⟨rfl, rfl⟩ | exact ⟨rfl, rfl, rfl⟩)) | ((apply go_glob; · assumption); · (simp (disch := omega) [go_sem, *, -List.reduceReplicate]; try first | rfl | exact ⟨rfl, rfl⟩ | exact ⟨rfl, rfl, rfl⟩)) | (apply go_read1; (· rfl); · (simp (disch := omega) [go_sem, *, -List.reduceReplicate]; try first | rfl | exact ⟨rfl, rfl⟩ | exact ⟨rfl, rfl, rfl⟩)) | (apply go_rw1; (· rfl); · (simp (disch := omega) [go_sem, *, -List.reduceReplicate]; try first | rfl | exact ⟨rfl, rfl⟩ | exact ⟨rfl, rfl, rfl⟩)) | (apply go_new1; (· rfl); · (simp (disch := omega) [go_sem, *, -List.reduceReplicate]; try first | rfl | exact ⟨rfl, rfl⟩ | exact ⟨rfl, rfl, rfl⟩)) | (apply go_conv; · (simp (disch := omega) [go_sem, *, -List.reduceReplicate]; try first | rfl | exact ⟨rfl, rfl⟩ | exact ⟨rfl, rfl, rfl⟩)) | ((first | (apply go_new; · rfl) | (apply go_pure; · rfl)); · (simp (disch := omega) [go_sem, *, -List.reduceReplicate]; simp [go_sem, *]; try first | rfl | exact ⟨rfl, rfl⟩)) | (apply go_condT; · (simp (disch := omega) [go_sem, *, -List.reduceReplicate]; try first | rfl | omega; done)) | (apply go_condF; · (simp (disch := omega) [go_sem, *, -List.reduceReplicate]; try first | rfl | omega; done)) | ((first | refine go_callw (hcs.1 _) (by simp (disch := omega) [go_sem, *, -List.reduceReplicate]; try rfl) (by simp (disch := omega) [go_sem, *, -List.reduceReplicate]; repeat' first | exact ALe.nil | exact AV.le_refl _ | exact AV.le_nils | exact AV.le_own _ _ | apply ALe.cons | apply AV.sub_agg) (by simp (disch := omega) [go_sem, *, -List.reduceReplicate]) ?_ | refine go_yieldw (hcs.1 _) (by simp (disch := omega) [go_sem, *, -List.reduceReplicate]; try rfl) (by simp (disch := omega) [go_sem, *, -List.reduceReplicate]; repeat' first | exact ALe.nil | exact AV.le_refl _ | exact AV.le_nils | exact AV.le_own _ _ | apply ALe.cons | apply AV.sub_agg) (by simp (disch := omega) [go_sem, *, -List.reduceReplicate]) ?_); have hcs := hcs.2))); exact hq.out) : p := h2 ⟨h⟩
theorem Wm {p q : Prop} (h : q) (h2 : Later q → p := by intro hq; (repeat (first | apply go_nil | apply go_kreg | apply go_kreg0 | apply go_kreg1 | (apply go_kregT; · (first | (simp [addT, CF, CFy, Ind, DisjF]; done) | (simp only [addT, CF, CFy, Ind]; repeat' (first | exact trivial | apply And.intro | exact Or.inl (by decide +kernel) | (refine Or.inr ⟨?_, ?_⟩ <;> (simp; try omega)))))) | apply go_then | apply go_then_exit | apply go_then_ret | apply go_blk | apply go_blk_ret | apply go_blk_here | (apply go_blk_there; · rfl) | apply go_seq | apply go_skip | apply go_block | apply go_scope | apply go_label | apply go_exit | apply go_ret | (apply go_mut; (· assumption); · (simp (disch := omega) [go_sem, *, -List.reduceReplicate]; first | exact ⟨rfl, rfl⟩ | (simp [go_sem, *]; exact ⟨rfl, rfl⟩))) | (apply go_mutP; (· assumption); · (simp (disch := omega) [go_sem, *, -List.reduceReplicate]; try first | rfl | exact ⟨rfl, rfl⟩ | exact ⟨rfl, rfl, rfl⟩)) | (apply go_guard_in; (· rfl); · (simp (disch := omega) [go_sem, *, -List.reduceReplicate]; try first | rfl | omega)) | (apply go_guard_off; (· rfl); · (simp (disch := omega) [go_sem, *, -List.reduceReplicate]; try first | rfl | omega)) | (apply go_guard_no; (· rfl); · (simp (disch := omega) [go_sem, *, -List.reduceReplicate]; try rfl)) | ((first | apply go_move | apply go_assign | apply go_load | apply go_store | apply go_append | apply go_copy | apply go_copy0 | apply go_clear0 | apply go_slice3 | apply go_indexA); · (simp (disch := omega) [go_sem, *, -List.reduceReplicate]; try first | rfl | exact ⟨rfl, rfl⟩ | exact ⟨rfl, rfl, rfl⟩)) | ((first | apply go_loadv | apply go_append0 | apply go_beyond); · (simp (disch := omega) [go_sem, *, -List.reduceReplicate]; try first | rfl | exact ⟨rfl, rfl⟩ | exact ⟨rfl, rfl, rfl⟩)) | (apply go_appself; · (simp (disch := omega) [go_sem, *, -List.reduceReplicate]; try first | rfl | exact ⟨rfl, rfl⟩ | exact ⟨rfl, rfl, rfl⟩)) | ((first | (apply go_appendz; · rfl) | (apply go_new; · rfl) | (apply go_pure; · rfl)); · (simp (disch := omega) [go_sem, *, -List.reduceReplicate]; try first | rfl | exact ⟨rfl, rfl⟩ | exact ⟨rfl, rfl, rfl⟩)) | ((apply go_glob; · assumption); · (simp (disch := omega) [go_sem, *, -List.reduceReplicate]; try first | rfl | exact ⟨rfl, rfl⟩ | exact ⟨rfl, rfl, rfl⟩)) | (apply go_read1; (· rfl); · (simp (disch := omega) [go_sem, *, -List.reduceReplicate]; try first | rfl | exact ⟨rfl, rfl⟩ | exact ⟨rfl, rfl, rfl⟩)) | (apply go_rw1; (· rfl); · (simp (disch := omega) [go_sem, *, -List.reduceReplicate]; try first | rfl | exact ⟨rfl, rfl⟩ | exact ⟨rfl, rfl, rfl⟩)) | (apply go_new1; (· rfl); · (simp (disch := omega) [go_sem, *, -List.reduceReplicate]; try first | rfl | exact ⟨rfl, rfl⟩ | exact ⟨rfl, rfl, rfl⟩)) | (apply go_conv; · (simp (disch := omega) [go_sem, *, -List.reduceReplicate]; try first | rfl | exact ⟨rfl, rfl⟩ | exact ⟨rfl, rfl, rfl⟩)) | ((first | (apply go_new; · rfl) | (apply go_pure; · rfl)); · (simp (disch := omega) [go_sem, *, -List.reduceReplicate]; simp [go_sem, *]; try first | rfl | exact ⟨rfl, rfl⟩)) | (apply go_condT; · (simp (disch := omega) [go_sem, *, -List.reduceReplicate]; try first | rfl | omega; done)) | (apply go_condF; · (simp (disch := omega) [go_sem, *, -List.reduceReplicate]; try first | rfl | omega; done)) | (first | (apply go_yieldw (hcs.1 _); (focus (simp (disch := omega) [go_sem, *, -List.reduceReplicate]; (try rfl); done)); (focus (simp (disch := omega) [go_sem, *, -List.reduceReplicate]; (repeat' first | exact ALe.nil | exact AV.le_refl _ | exact AV.le_nils | exact AV.le_own _ _ | apply ALe.cons | apply AV.sub_agg); done)); (focus (simp (disch := omega) [go_sem, *, -List.reduceReplicate]; done)); have hcs := hcs.2) | (first | (apply go_callw (hcs.1 _); (focus (simp (disch := omega) [go_sem, *, -List.reduceReplicate]; (try rfl); done)); (focus (simp (disch := omega) [go_sem, *, -List.reduceReplicate]; (repeat' first | exact ALe.nil | exact AV.le_refl _ | exact AV.le_nils | exact AV.le_own _ _ | apply ALe.cons | apply AV.sub_agg); done)); (focus (simp (disch := omega) [go_sem, *, -List.reduceReplicate]; done)); have hcs := hcs.2) | (have hcs := hcs.2; (first | (apply go_callw (hcs.1 _); (focus (simp (disch := omega) [go_sem, *, -List.reduceReplicate]; (try rfl); done)); (focus (simp (disch := omega) [go_sem, *, -List.reduceReplicate]; (repeat' first | exact ALe.nil | exact AV.le_refl _ | exact AV.le_nils | exact AV.le_own _ _ | apply ALe.cons | apply AV.sub_agg); done)); (focus (simp (disch := omega) [go_sem, *, -List.reduceReplicate]; done)); have hcs := hcs.2) | (have hcs := hcs.2; (first | (apply go_callw (hcs.1 _); (focus (simp (disch := omega) [go_sem, *, -List.reduceReplicate]; (try rfl); done)); (focus (simp (disch := omega) [go_sem, *, -List.reduceReplicate]; (repeat' first | exact ALe.nil | exact AV.le_refl _ | exact AV.le_nils | exact AV.le_own _ _ | apply ALe.cons | apply AV.sub_agg); done)); (focus (simp (disch := omega) [go_sem, *, -List.reduceReplicate]; done)); have hcs := hcs.2) | (have hcs := hcs.2; (first | (apply go_callw (hcs.1 _); (focus (simp (disch := omega) [go_sem, *, -List.reduceReplicate]; (try rfl); done)); (focus (simp (disch := omega) [go_sem, *, -List.reduceReplicate]; (repeat' first | exact ALe.nil | exact AV.le_refl _ | exact AV.le_nils | exact AV.le_own _ _ | apply ALe.cons | apply AV.sub_agg); done)); (focus (simp (disch := omega) [go_sem, *, -List.reduceReplicate]; done)); have hcs := hcs.2) | (have hcs := hcs.2; (first | (apply go_callw (hcs.1 _); (focus (simp (disch := omega) [go_sem, *, -List.reduceReplicate]; (try rfl); done)); (focus (simp (disch := omega) [go_sem, *, -List.reduceReplicate]; (repeat' first | exact ALe.nil | exact AV.le_refl _ | exact AV.le_nils | exact AV.le_own _ _ | apply ALe.cons | apply AV.sub_agg); done)); (focus (simp (disch := omega) [go_sem, *, -List.reduceReplicate]; done)); have hcs := hcs.2) | (have hcs := hcs.2; (first | (apply go_callw (hcs.1 _); (focus (simp (disch := omega) [go_sem, *, -List.reduceReplicate]; (try rfl); done)); (focus (simp (disch := omega) [go_sem, *, -List.reduceReplicate]; (repeat' first | exact ALe.nil | exact AV.le_refl _ | exact AV.le_nils | exact AV.le_own _ _ | apply ALe.cons | apply AV.sub_agg); done)); (focus (simp (disch := omega) [go_sem, *, -List.reduceReplicate]; done)); have hcs := hcs.2) | (have hcs := hcs.2; (first | (apply go_callw (hcs.1 _); (focus (simp (disch := omega) [go_sem, *, -List.reduceReplicate]; (try rfl); done)); (focus (simp (disch := omega) [go_sem, *, -List.reduceReplicate]; (repeat' first | exact ALe.nil | exact AV.le_refl _ | exact AV.le_nils | exact AV.le_own _ _ | apply ALe.cons | apply AV.sub_agg); done)); (focus (simp (disch := omega) [go_sem, *, -List.reduceReplicate]; done)); have hcs := hcs.2) | (have hcs := hcs.2; (apply go_callw (hcs.1 _); (focus (simp (disch := omega) [go_sem, *, -List.reduceReplicate]; (try rfl); done)); (focus (simp (disch := omega) [go_sem, *, -List.reduceReplicate]; (repeat' first | exact ALe.nil | exact AV.le_refl _ | exact AV.le_nils | exact AV.le_own _ _ | apply ALe.cons | apply AV.sub_agg); done)); (focus (simp (disch := omega) [go_sem, *, -List.reduceReplicate]; done)); have hcs := hcs.2)))))))))))))))))); exact hq.out) : p := h2 ⟨h⟩
theorem Wz {p q : Prop} (h : q) (h2 : Later q → p := by intro hq; (try (apply go_region; · (simp only [List.length_cons, List.length_nil, Nat.reduceAdd, Nat.add_assoc]; rfl))); refine Wm ?_; exact hq.out) : p := h2 ⟨h⟩
theorem Wg {p q : Prop} (h : q) (h2 : Later q → p := by intro hq; (repeat (first | apply go_nil | apply go_kreg | apply go_kreg0 | apply go_kreg1 | (apply go_kregT; · (first | (simp [addT, CF, CFy, Ind, DisjF]; done) | (simp only [addT, CF, CFy, Ind]; repeat' (first | exact trivial | apply And.intro | exact Or.inl (by decide +kernel) | (refine Or.inr ⟨?_, ?_⟩ <;> (simp; try omega)))))) | apply go_then | apply go_then_exit | apply go_then_ret | apply go_blk | apply go_blk_ret | apply go_blk_here | (apply go_blk_there; · rfl) | apply go_seq | (apply go_region; · (simp only [List.length_cons, List.length_nil, Nat.reduceAdd, Nat.add_assoc]; rfl)) | apply go_skip | apply go_block | apply go_scope | apply go_label | apply go_exit | apply go_ret | (apply go_mut; (· assumption); · (simp (disch := omega) [go_sem, *, -List.reduceReplicate]; first | exact ⟨rfl, rfl⟩ | (simp [go_sem, *]; exact ⟨rfl, rfl⟩))) | (apply go_mutP; (· assumption); · (simp (disch := omega) [go_sem, *, -List.reduceReplicate]; try first | rfl | exact ⟨rfl, rfl⟩ | exact ⟨rfl, rfl, rfl⟩)) | (apply go_guard_in; (· rfl); · (simp (disch := omega) [go_sem, *, -List.reduceReplicate]; try first | rfl | omega)) | (apply go_guard_off; (· rfl); · (simp (disch := omega) [go_sem, *, -List.reduceReplicate]; try first | rfl | omega)) | (apply go_guard_no; (· rfl); · (simp (disch := omega) [go_sem, *, -List.reduceReplicate]; try rfl)) | ((first | apply go_move | apply go_assign | apply go_load | apply go_store | apply go_append | apply go_copy | apply go_copy0 | apply go_clear0 | apply go_slice3 | apply go_indexA); · (simp (disch := omega) [go_sem, *, -List.reduceReplicate]; try first | rfl | exact ⟨rfl, rfl⟩ | exact ⟨rfl, rfl, rfl⟩)) | ((first | apply go_loadv | apply go_append0 | apply go_beyond); · (simp (disch := omega) [go_sem, *, -List.reduceReplicate]; try first | rfl | exact ⟨rfl, rfl⟩ | exact ⟨rfl, rfl, rfl⟩)) | (apply go_appself; · (simp (disch := omega) [go_sem, *, -List.reduceReplicate]; try first | rfl | exact ⟨rfl, rfl⟩ | exact ⟨rfl, rfl, rfl⟩)) | ((first | (apply go_appendz; · rfl) | (apply go_new; · rfl) | (apply go_pure; · rfl)); · (simp (disch := omega) [go_sem, *, -List.reduceReplicate]; try first | rfl | exact ⟨rfl, rfl⟩ | exact ⟨rfl, rfl, rfl⟩)) | ((apply go_glob; · assumption); · (simp (disch := omega) [go_sem, *, -List.reduceReplicate]; try first | rfl | exact ⟨rfl, rfl⟩ | exact ⟨rfl, rfl, rfl⟩)) | (apply go_read1; (· rfl); · (simp (disch := omega) [go_sem, *, -List.reduceReplicate]; try first | rfl | exact ⟨rfl, rfl⟩ | exact ⟨rfl, rfl, rfl⟩)) | (apply go_rw1; (· rfl); · (simp (disch := omega) [go_sem, *, -List.reduceReplicate]; try first | rfl | exact ⟨rfl, rfl⟩ | exact ⟨rfl, rfl, rfl⟩)) | (apply go_new1; (· rfl); · (simp (disch := omega) [go_sem, *, -List.reduceReplicate]; try first | rfl | exact ⟨rfl, rfl⟩ | exact ⟨rfl, rfl, rfl⟩)) | (apply go_conv; · (simp (disch := omega) [go_sem, *, -List.reduceReplicate]; try first | rfl | exact ⟨rfl, rfl⟩ | exact ⟨rfl, rfl, rfl⟩)) | ((first | (apply go_new; · rfl) | (apply go_pure; · rfl)); · (simp (disch := omega) [go_sem, *, -List.reduceReplicate]; simp [go_sem, *]; try first | rfl | exact ⟨rfl, rfl⟩)))); exact hq.out) : p := h2 ⟨h⟩
theorem W0 {p : Prop} (h : p := by refine Wk ?_; refine go_result (by simp (disch := omega) [go_sem, *, -List.reduceReplicate]; rfl) (by simp (disch := omega) [go_sem]; try rfl) (fun id hid => by simp (disch := omega) only [upd_ne, wr_cons, wr_nil]; try exact hlow id hid)) : p := h
theorem WL {p : Prop} (h : p := by refine Wk ?_; refine go_resultI (by simp (disch := omega) [go_sem, *, -List.reduceReplicate]; rfl) (AV.sub_tup (by repeat' first | exact ALe.nil | exact AV.le_refl _ | apply ALe.cons | ((first | apply AV.le_slices | apply AV.le_nilsE | apply AV.le_clipE); first | rfl | (simp (disch := omega) [go_sem, *, -List.reduceReplicate]; done)))) (by simp (disch := omega) [go_sem]; try rfl) (fun id hid => by simp (disch := omega) only [upd_ne, wr_cons, wr_nil]; try exact hlow id hid)) : p := h
theorem WM {p : Prop} (h : p := by refine Wk ?_; refine go_resultI (by simp (disch := omega) [go_sem, *, -List.reduceReplicate]; rfl) (by first | exact AV.le_refl _ | ((first | apply AV.le_slices | apply AV.le_nilsE | apply AV.le_clipE); first | rfl | (simp (disch := omega) [go_sem, *, -List.reduceReplicate]; done))) (by simp (disch := omega) [go_sem]; try rfl) (fun id hid => by simp (disch := omega) only [upd_ne, wr_cons, wr_nil]; try exact hlow id hid)) : p := h
theorem WA {p : Prop} (h : p := by refine Wk ?_; refine go_resultI (by simp (disch := omega) [go_sem, *, -List.reduceReplicate]; rfl) (AV.sub_agg (by repeat' first | exact ALe.nil | exact AV.le_refl _ | apply ALe.cons | ((first | apply AV.le_slices | apply AV.le_nilsE | apply AV.le_clipE); first | rfl | (simp (disch := omega) [go_sem, *, -List.reduceReplicate]; done)))) (by simp (disch := omega) [go_sem, -List.reduceReplicate]; try rfl) (fun id hid => by simp (disch := omega) only [upd_ne, wr_cons, wr_nil]; try exact hlow id hid)) : p := h
theorem WT {p : Prop} (h : p := by refine Wk ?_; refine go_resultI (by simp (disch := omega) [go_sem, *, -List.reduceReplicate]; rfl) (by exact AV.sub_tup (.cons (AV.sub_agg (by repeat' first | exact ALe.nil | exact AV.le_refl _ | apply ALe.cons | ((first | apply AV.le_slices | apply AV.le_nilsE | apply AV.le_clipE); first | rfl | (simp (disch := omega) [go_sem, *, -List.reduceReplicate]; done)))) (by repeat' first | exact ALe.nil | exact AV.le_refl _ | apply ALe.cons | ((first | apply AV.le_slices | apply AV.le_nilsE | apply AV.le_clipE); first | rfl | (simp (disch := omega) [go_sem, *, -List.reduceReplicate]; done))))) (by simp (disch := omega) [go_sem]; try rfl) (fun id hid => by simp (disch := omega) only [upd_ne, wr_cons, wr_nil]; try exact hlow id hid)) : p := h
theorem WD {p : Prop} (h : p := by refine Wk ?_; refine go_resultI (by simp (disch := omega) [go_sem, *, -List.reduceReplicate]; rfl) (AV.sub_tup (by repeat' first | exact ALe.nil | exact AV.le_refl _ | apply ALe.cons | apply AV.sub_agg | ((first | apply AV.le_slices | apply AV.le_nilsE | apply AV.le_clipE); first | rfl | (simp (disch := omega) [go_sem, *, -List.reduceReplicate]; done)))) (by simp (disch := omega) [go_sem]; try rfl) (fun id hid => by simp (disch := omega) only [upd_ne, wr_cons, wr_nil]; try exact hlow id hid)) : p := h
/-- An equation on what a slot or an entity holds. -/
theorem WE {p : Prop} (h : p := by simp (disch := omega) [go_sem, *, -List.reduceReplicate]; try rfl) : p := h
theorem WF {p : Prop} (h : p := by first | (simp (disch := omega) [go_sem, *, -List.reduceReplicate]; done) | (simp (disch := omega) [go_sem, *, -List.reduceReplicate]; first | done | rfl | exact ⟨rfl, rfl⟩ | exact ⟨rfl, rfl, rfl⟩ | exact ⟨rfl, rfl, rfl, rfl⟩ | omega) | omega | rfl | assumption | (simp (disch := omega) [go_sem, *, -List.reduceReplicate])) : p := h
theorem WC {p : Prop} (h : p := by (try simp only); first | assumption | omega | (simp only [List.append_assoc, List.cons_append, List.nil_append, List.singleton_append]; assumption) | (simp; done) | (simp; omega) | (simp; assumption) | (simp only [List.nil_append, *]; done) | (simp (disch := omega) [go_sem, *, -List.reduceReplicate])) : p := h
theorem WN {p : Prop} (h : p := by first | omega | (simp only; omega)) : p := h
theorem WS {p : Prop} (h : p := by (try simp only); (repeat (first | (with_reducible refine SKeep.upd rfl ?_) | assumption | (with_reducible refine SKeep.step (by assumption) rfl ?_)))) : p := h
theorem WG {p : Prop} (h : p := by (try simp only [wr_cons, wr_nil]); (repeat (first | (with_reducible refine EKeep.updN (by first | omega | (simp only; omega)) ?_) | (with_reducible refine EKeep.updL (by simp) ?_) | assumption | (with_reducible refine EKeep.step (by assumption) (by first | omega | (simp only; omega)) (by simp; try omega) ?_) | (simp only [wr_cons, wr_nil])))) : p := h
/-! ### Heads and ends, as default arguments -/
theorem Bd {P : Program} {f : FuncId} {body : Code} {args : List AV} {k : Nat} {pre post : Foot} {r : AV} {fn : Func} {N : Nat} {rs : List ResultVar} (hf : P.funcs[f]? = some fn) (hN : fn.ntmps = N)
    (h : ∀ (σ : Nat → Ent) (n : Nat), (∀ p ∈ pre, σ p.1 = p.2) → (∀ p ∈ pre, p.1 < n) → σ k = .none → k < n → (∀ id, n ≤ id → σ id = .none) → aw P N body (aRet P rs k σ n pre r post) ⟨initS args, σ, n⟩)
    (hb : fn.body = some body := by exact rfl) (hname : (fn.name == "runtime.NumGoroutine") = false := by kernel_rfl) (hok : codeOK N body = true := by kernel_rfl) (hrs : fn.results.toList = rs := by exact rfl) (hargs : args.length ≤ N := by simp) (hpre : ∀ p ∈ pre, p.2 ≠ .none := by simp) (hpost : ∀ q ∈ post, q.1 = k ∨ ∃ p ∈ pre, p.1 = q.1 := by simp) (hmix : P.follows .mixedOrders = true := by exact mixed) : ACall P f args k pre r post :=
  .of_body hmix hf hb hname hN hok hrs hargs hpre hpost h
theorem HD0 {σ : Nat → Ent} {n d : Nat} {E : Ent} (h : ∀ p ∈ [(d, E)], σ p.1 = p.2) (hn : ∀ p ∈ [(d, E)], p.1 < n) : σ d = E ∧ d < n := ⟨h _ (List.mem_singleton.2 rfl), hn _ (List.mem_singleton.2 rfl)⟩
theorem RW {P : Program} {rs : List ResultVar} {k : Nat} {σ0 : Nat → Ent} {n0 : Nat} {pre post : Foot} {r r' : AV} {c : Cfg} (d : Nat) (E : Ent) (h1 : aresults P c rs = some r' := by simp (disch := omega) [go_sem, *, -List.reduceReplicate]; rfl) (h2 : r'.ren (rn n0 k none) = r := by first | rfl | (simp (disch := omega) [go_sem]; done) | (simp (disch := omega) [go_sem, *]; done) | simp (disch := omega) [go_sem])
    (h3 : c.σ d = E := by simp (disch := omega) [go_sem, *]) (h3' : ∀ id, id < n0 → id ≠ d → c.σ id = σ0 id := by intro id hid hdd; first | exact hlow id hid hdd | (simp (disch := omega) only [upd_ne, wr_cons, wr_nil]; try (first | exact hlow id hid hdd | exact hlow id hid))) (h4 : ∃ p ∈ pre, p.1 = d := by simp) (h5 : renF (rn n0 k none) [(d, E)] = post := by simp (disch := omega) [go_sem, *]) : aRet P rs k σ0 n0 pre r post .ret c :=
  go_resultW [(d, E)] h1 h2 (fun id hid => by
    rw [wr_cons, wr_nil]
    by_cases hdd : id = d
    · subst hdd; rw [upd_same, h3]
    · rw [upd_ne _ _ _ _ hdd]; exact h3' id hid hdd) (by simpa using h4) h5
theorem RV {P : Program} {rs : List ResultVar} {k : Nat} {σ0 : Nat → Ent} {n0 : Nat} {pre post : Foot} {r r0 : AV} {c : Cfg} (d : Nat) (E : Ent) (h1 : aresults P c rs = some r0 := by simp (disch := omega) [go_sem, *, -List.reduceReplicate]; rfl) (hle : AV.le r0 r := by first | exact AV.le_refl _ | ((first | apply AV.le_slices | apply AV.le_nilsE | apply AV.le_clipE); first | rfl | (simp (disch := omega) [go_sem, *, -List.reduceReplicate]; done)) | (apply AV.sub_tup; repeat' first | exact ALe.nil | exact AV.le_refl _ | apply ALe.cons | ((first | apply AV.le_slices | apply AV.le_nilsE | apply AV.le_clipE); first | rfl | (simp (disch := omega) [go_sem, *, -List.reduceReplicate]; done))) | (apply AV.sub_agg; repeat' first | exact ALe.nil | exact AV.le_refl _ | apply ALe.cons | ((first | apply AV.le_slices | apply AV.le_nilsE | apply AV.le_clipE); first | rfl | (simp (disch := omega) [go_sem, *, -List.reduceReplicate]; done)))) (h2 : r.ren (rn n0 k none) = r := by first | rfl | (simp (disch := omega) [go_sem]; done) | (simp (disch := omega) [go_sem, *]; done) | simp (disch := omega) [go_sem])
    (h3 : c.σ d = E := by simp (disch := omega) [go_sem, *]) (h3' : ∀ id, id < n0 → id ≠ d → c.σ id = σ0 id := by intro id hid hdd; first | exact hlow id hid hdd | (simp (disch := omega) only [upd_ne, wr_cons, wr_nil]; try (first | exact hlow id hid hdd | exact hlow id hid))) (h4 : ∃ p ∈ pre, p.1 = d := by simp) (h5 : renF (rn n0 k none) [(d, E)] = post := by simp (disch := omega) [go_sem, *]) : aRet P rs k σ0 n0 pre r post .ret c :=
  go_resultWI [(d, E)] h1 hle h2 (fun id hid => by
    rw [wr_cons, wr_nil]
    by_cases hdd : id = d
    · subst hdd; rw [upd_same, h3]
    · rw [upd_ne _ _ _ _ hdd]; exact h3' id hid hdd) (by simpa using h4) h5
/-- What a loop has kept. -/
theorem KS {L : List Nat} {s s' : Slots} {x : AV} (h : SKeep L s s') (t : Nat) (ht : L.contains t = false := by decide) (he : s t = x := by simp (disch := omega) [go_sem, *, -List.reduceReplicate]; try rfl) : s' t = x := (h.at t ht).trans he
theorem KE {n : Nat} {L : List Nat} {σ σ' : Nat → Ent} {x : Ent} (h : EKeep n L σ σ') (id : Nat) (hid : id < n := by omega) (ht : id ∉ L := by simp; try omega) (he : σ id = x := by simp (disch := omega) [go_sem, *, -List.reduceReplicate]; try rfl) : σ' id = x := (h.at id hid ht).trans he
theorem KL {n N : Nat} {L : List Nat} {σ σ' σ'' : Nat → Ent} (h : EKeep n L σ' σ'') (hN : N ≤ n := by omega) (hL : ∀ id, id < N → id ∉ L := by intro id hid; simp; try omega) (hx : ∀ id, id < N → σ' id = σ id := by intro id hid; first | exact hlow id hid | (simp (disch := omega) only [upd_ne, wr_cons, wr_nil]; try exact hlow id hid)) : ∀ id, id < N → σ'' id = σ id := fun id hid => (h.at id (by omega) (hL id hid)).trans (hx id hid)
theorem KD {n N d : Nat} {L : List Nat} {σ σ' σ'' : Nat → Ent} (h : EKeep n L σ' σ'') (hN : N ≤ n := by omega) (hL : ∀ id, id < N → id ≠ d → id ∉ L := by intro id hid hdd; simp; try omega) (hx : ∀ id, id < N → id ≠ d → σ' id = σ id := by intro id hid hdd; first | exact hlow id hid hdd | (simp (disch := omega) only [upd_ne, wr_cons, wr_nil]; try first | exact hlow id hid hdd | exact hlow id hid)) : ∀ id, id < N → id ≠ d → σ'' id = σ id := fun id hid hdd => (h.at id (by omega) (hL id hid hdd)).trans (hx id hid hdd)
end Go.Ab
