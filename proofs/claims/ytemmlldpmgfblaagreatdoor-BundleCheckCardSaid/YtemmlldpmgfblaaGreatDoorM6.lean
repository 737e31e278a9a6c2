/- Texts C12, M6, M7, D11, R2, M8, M10, K2, K3, K4, K5, N2, joined. -/
import Derived.Test.YtemmlldpmgfblaaGreatDoorM5

/- A whole array as a slice without spare places; zeros behind such a slice; a box that is written no more. -/
namespace Go.Ab
open Go.RowKit

/-- A box that is written no more. -/
theorem go_fixBox {P : Program} {N : Nat} {b : Code} {Q : AExit → Cfg → Prop} {s : Slots} {σ : Nat → Ent} {n : Nat} (id : Nat) {bt : TypeId} {x : AV} (hσ : σ id = .box bt x) (h : aw P N b Q ⟨s, upd σ id (.fbox bt x), n⟩) : aw P N b Q ⟨s, σ, n⟩ :=
  go_ghost (fun W0 g a w hS => by
    obtain ⟨b0, v, hb0, _⟩ := hS.sim.box id bt x hσ
    obtain ⟨g', h1, h2, _⟩ := hS.sim.freeze hσ hb0
    exact ⟨g', h1, ⟨h2, hS.size, fun t => (hS.slots t).mono h1⟩⟩) h

section
variable {P : Program} {o : Oper} {s : Slots} {id : Nat}
/-- x[:] of an array in a box: as long as its capacity. -/
theorem holds_slice_whole {t e : TypeId} {x : Operand} {i off n size : Nat} {path : List Nat} {bt : TypeId} {c : AV} {ys : List AV} (ho : o.op = .slice t x none none none) (ht : ptrArr P t = some (n, e, size)) (hx : aeval s x = .ptr i path off)
    (hy : c.get path = some (.agg ys)) (hoff : c.offs path = off) (hn : ys.length = n) (hsz : ys.all (fun y => y.sz == size) = true) (h4 : n ≤ maxLen) :
    OpHolds P o s id [(i, .box bt c)] (.clip ys) [(i, .fbox bt c)] := by
  refine ⟨fun p hp => by simp at hp; subst hp; simp, fun q hq => .inr ⟨_, List.mem_cons_self .., by simp at hq; subst hq; rfl⟩, fun W0 g σ N w a hS hr _ _ hp => ?_⟩
  have hx' := hr x (by simp [ho, Op.operands])
  rw [hx] at hx'
  generalize hv : a.eval x = v at hx'
  cases hx' with
  | ptr _ _ _ b hb =>
    have hbd := run_bounds (P := P) (a := a) (g := g) (s := s) (lo := none) (hi := none) (len := n) (l := 0) (h := n) rfl rfl (fun x hx => by cases hx) (fun x hx => by cases hx) (Nat.zero_le _) (Nat.le_refl _) false w
    have hrun := run_slice_arr (P := P) (b := b) (off := off) ht hbd
    have hexec : (execOp a.eval o).run P w = .ok (.value (.slice (some (if n = 0 then ⟨b, off, none⟩ else ⟨b, off + 0 * size, none⟩)) (n - 0) (n - 0))) w := by
      simp only [execOp, ho, Sem.run_bind, hv, Option.map_none]
      rw [show ((none : Option Operand).map a.eval) = none from rfl] at hrun
      simp only [hrun, Result.andThen_ok, Sem.run_pure]
    unfold runsTo
    rw [hexec]
    obtain ⟨g', hle, hS', v', hrep, hG⟩ := hS.freeze (hp (i, .box bt c) (by simp)) hb
    refine ⟨g', hle, hS', ?_⟩
    obtain ⟨u, hu, hub, huc⟩ := hrep.get hy
    cases hu with
    | agg _ vs hvl hvr =>
      refine .clip _ _ _ ?_
      have := arr_part (g := g') (b := b) (off := off) (l := 0) (h := n) (c := n - 0) hvl hvr (sizes_of hvl hvr hsz) (fun j q hq => by
        rw [hG, ← Array.getElem?_toList, ← hoff]
        exact huc j q (by simpa [Value.cells] using hq)) (Nat.zero_le _) (by omega) (by omega) (by omega) (if n = 0 then ⟨b, off, none⟩ else ⟨b, off + 0 * size, none⟩) (by
        by_cases h0 : n = 0
        · exact .inl (by omega)
        · exact .inr (by rw [if_neg h0]))
      rw [show (ys.take n).drop 0 = ys by rw [List.drop_zero, List.take_of_length_le (by omega)]] at this
      exact this

/-- An operation on a slice without spare places: as on a row of its own. -/
theorem OpHolds.ofClip {s2 : Slots} {x : Operand} {e : TypeId} {size m : Nat} {xs : List AV} {v : AV} (hx : aeval s x = .clip xs) (hx2 : aeval s2 x = .slice (some id) xs) (hxo : x ∈ o.op.operands) (hne : ∀ y ∈ o.op.operands, y ≠ x → aeval s2 y = aeval s y) (hsx : xs.all (fun x => x.sz == size) = true)
    (h : ∀ id', OpHolds P o s2 id' [(id, .row e size xs.length)] v [(id, .row e size m)]) : OpHolds P o s id [] v [(id, .row e size m)] := by
  refine ⟨fun p hp => (by cases hp), fun q hq => .inl (by simp at hq; subst hq; rfl), fun W0 g σ n w a hS hr hf hn _ => ?_⟩
  have h1 := hr x hxo
  rw [hx] at h1
  generalize hv : a.eval x = u at h1
  cases h1 with
  | clip _ A k hcl =>
    obtain ⟨g1, hle1, hS1, hrow1, hrep1⟩ := hS.ofClip (k := id) (e := e) (size := size) hf hn hcl hsx
    refine ((h n).2.2 W0 g1 _ (n + 1) w a (hS1.more (Nat.le_succ n)) (fun y hy => ?_) (by rw [upd_ne _ _ _ _ (by omega)]; exact hS.bound n (Nat.le_refl _)) (Nat.lt_succ_self n) (fun p hp => by simp at hp; subst hp; exact upd_same _ _ _)).mono ?_
    · by_cases hyx : y = x
      · subst hyx; rw [hx2, hv]; exact hrep1
      · rw [hne y hy hyx]; exact (hr y hy).mono hle1
    · rintro u w' ⟨g', hle, hS', hrep⟩
      refine ⟨g', hle1.trans hle, ?_, hrep⟩
      have e1 : wr (upd σ id (.row e size xs.length)) [(id, .row e size m)] = wr σ [(id, .row e size m)] := by
        simp only [wr_cons, wr_nil, upd_upd]
      rw [e1] at hS'
      refine ⟨hS'.below, hS'.imm, fun i hi => ?_, hS'.ents, hS'.sep, hS'.fresh⟩
      by_cases hin : i = n
      · subst hin
        simp only [wr_cons, wr_nil]
        rw [upd_ne _ _ _ _ (by omega)]
        exact hS.bound i (Nat.le_refl _)
      · exact hS'.bound i (by omega)
theorem holds_appendz_clip {t tn e : TypeId} {size bytes tx : Nat} {z : AV} {y : Operand} {xs : List AV} {k kn : IntKind} {m : Int} (ho : o.op = .call { callee := .builtin .append, args := #[.tmp tx, y], argTypes := #[t, tn] }) (ht : sliceTy P t = some e) (htn : intTy P tn = some kn) (hs : sizeIs P e size = true) (hb : bytesIs P e bytes = true)
    (hz : ztree P e = some z) (hzs : z.sz = size) (hzc : z.cell = true) (hpos : 0 < size) (hx : s tx = .clip xs) (hyx : y ≠ .tmp tx) (hy : aeval s y = .lit (.int k m)) (h0 : 0 ≤ m)
    (hsx : xs.all (fun x => x.sz == size) = true) (hbytes : (xs.length + m.toNat) * bytes ≤ 140737488355328) (hmx : xs.length + m.toNat ≤ 140737488355328) :
    OpHolds P o s id [] (.slice (some id) (xs ++ List.replicate m.toNat z)) [(id, .row e size (xs.length + m.toNat))] := by
  have hy2 : aeval (upd s tx (.slice (some id) xs)) y = aeval s y := aeval_sput (d := some tx) (fun e he => by cases he; exact hyx)
  refine OpHolds.ofClip (s2 := upd s tx (.slice (some id) xs)) (x := .tmp tx) hx (upd_same _ _ _) (by simp [ho, Op.operands, Call.operands]) (fun y' hy' hne => aeval_sput (d := some tx) (fun e he => by cases he; exact hne)) hsx fun id' => ?_
  exact holds_append_zeros ho ht htn hs hb hz hzs hzc hpos (upd_same _ _ _) (by rw [hy2]; exact hy) h0 hsx hbytes hmx
end

section
variable {P : Program} {ops : Array Oper} {m i : Nat} {r : List Oper} {T : Trace} {k : Cfg → Trace → Prop} {s : Slots} {σ : Nat → Ent} {n : Nat} {ty : TypeId} {pos : String} {after : Array Edge}
theorem go_sliceWhole {t : Tmp} {t' e : TypeId} {x : Operand} {id off len size : Nat} {path : List Nat} {bt : TypeId} {c : AV} {ys : List AV} (hx : aeval s x = .ptr id path off) (hσ : σ id = .box bt c) (ht : ptrArr P t' = some (len, e, size))
    (hy : c.get path = some (.agg ys)) (hoff : c.offs path = off) (hn : ys.length = len) (hsz : ys.all (fun y => y.sz == size) = true) (h4 : len ≤ maxLen)
    (h : aops P ops m r (i + 1) ((i, [(id, .box bt c)], [(id, .fbox bt c)]) :: T) k ⟨upd s t (.clip ys), upd σ id (.fbox bt c), n⟩) : aops P ops m (⟨some t, .slice t' x none none none, ty, pos, after, none⟩ :: r) i T k ⟨s, σ, n⟩ := by
  rw [aops_cons, wantedG_none, aguard_true]
  exact ⟨⟨[(id, .box bt c)], .clip ys, [(id, .fbox bt c)]⟩, ⟨holds_slice_whole rfl ht hx hy hoff hn hsz h4, fun p hp => by simp at hp; subst hp; exact hσ⟩, h⟩
theorem go_appendzC {t : Tmp} {t' tn e : TypeId} {size bytes tx : Nat} {z : AV} {y : Operand} {xs : List AV} {kk kn : IntKind} {q : Int} (hx : s tx = .clip xs) (hi : sliceInfo P t' = some (e, size, bytes, z)) (htn : intTy P tn = some kn) (hzc : z.cell = true) (hyx : y ≠ .tmp tx) (hy : aeval s y = .lit (.int kk q)) (h0 : 0 ≤ q)
    (hsx : xs.all (fun x => x.sz == size) = true) (hbytes : (xs.length + q.toNat) * bytes ≤ 140737488355328) (hmx : xs.length + q.toNat ≤ 140737488355328)
    (h : aops P ops m r (i + 1) ((i, [], [(m + i, .row e size (xs.length + q.toNat))]) :: T) k ⟨upd s t (.slice (some (m + i)) (xs ++ List.replicate q.toNat z)), upd σ (m + i) (.row e size (xs.length + q.toNat)), n⟩) :
    aops P ops m (⟨some t, .call { callee := .builtin .append, args := #[.tmp tx, y], argTypes := #[t', tn] }, ty, pos, after, none⟩ :: r) i T k ⟨s, σ, n⟩ := by
  obtain ⟨k1, k2, k3, k4, k5, k6⟩ := sliceInfo_sound hi
  rw [aops_cons, wantedG_none, aguard_true]
  exact ⟨⟨[], .slice (some (m + i)) (xs ++ List.replicate q.toNat z), [(m + i, .row e size (xs.length + q.toNat))]⟩, ⟨holds_appendz_clip rfl k1 htn k2 k3 k4 k5 hzc k6 hx hyx hy h0 hsx hbytes hmx, fun p hp => by cases hp⟩, h⟩
end
end Go.Ab

/- Algebras: Word, stream of the reference. -/
namespace Go.Proofs.YtemmlldpmgfblaaGreatDoor
open Go.Ab
attribute [local irreducible] Go.Ab.tyAV Go.Ab.aw Go.Ab.aops Go.Ab.kReg Go.Ab.aThen Go.Ab.aBlk Go.Ab.acond Go.Ab.aguard Go.Ab.astep Go.Ab.AStepX Go.Ab.aRet
attribute [local irreducible] shaG

theorem Word_spec (s b : List UInt8) (hs : s.length ≤ 100000) (hb : b.length ≤ 1000000) (k : Nat) :
    ACall Tryz.prog 146 [.lit (.string ⟨s.toArray⟩), .slice none (b.map byteAV)] k [] (.slice none ((s ++ b).map byteAV)) [] := by
  refine Bd Tryz.func146 Tryz.ntmps146 fun σ N hp hpn hk hkn hfree => ?_
  exact WM

section
variable {P E : List UInt8}
def mixN (P E : List UInt8) (i : Nat) : List UInt8 := P.take i ++ E.drop i
theorem mixN_len (h : P.length = E.length) (i : Nat) (hi : i ≤ E.length) : (mixN P E i).length = E.length := by
  unfold mixN; rw [List.length_append, List.length_take, List.length_drop]; omega
theorem mixN_0 : mixN P E 0 = E := by simp [mixN]
theorem mixN_all (h : P.length = E.length) : mixN P E E.length = P := by
  unfold mixN; rw [List.take_of_length_le (by omega), List.drop_of_length_le (by omega), List.append_nil]
theorem mixN_at (h : P.length = E.length) (i : Nat) (hi : i < E.length) : (mixN P E i)[i]? = E[i]? := by
  unfold mixN
  have hl : (P.take i).length = i := by rw [List.length_take]; omega
  rw [List.getElem?_append_right (by omega), hl, Nat.sub_self, List.getElem?_drop, Nat.add_zero]
theorem mixN_set (h : P.length = E.length) (i : Nat) (hi : i < P.length) : (mixN P E i).set i P[i] = mixN P E (i + 1) := by
  unfold mixN
  have hl : (P.take i).length = i := by rw [List.length_take]; omega
  rw [List.set_append_right _ _ (by omega), hl, Nat.sub_self, List.drop_eq_getElem_cons (by omega : i < E.length), List.set_cons_zero, List.take_succ_eq_append_getElem hi, List.append_assoc]
  rfl
end

section
variable [W : W32]
def kst (key : List UInt8) (nonce : Int) (q : Nat) : Tg := hmacT key ([115, 116, 114, 101, 97, 109] ++ (eightB nonce ++ eightB q))
def strmB (key : List UInt8) (nonce : Int) (b : List UInt8) : List UInt8 := (List.range b.length).map fun i => x8 (b.getD i 0) ((kst key nonce (i / 32)).1.getD (i % 32) 0)
theorem strmB_len (key : List UInt8) (nonce : Int) (b : List UInt8) : (strmB key nonce b).length = b.length := by simp [strmB]
theorem strmB_at (key : List UInt8) (nonce : Int) (b : List UInt8) (i : Nat) (hi : i < b.length) (h : i < (strmB key nonce b).length) (h2 : i % 32 < (kst key nonce (i / 32)).1.length) : (strmB key nonce b)[i] = x8 b[i] ((kst key nonce (i / 32)).1[i % 32]) := by
  have h3 : i % 32 < (kst key nonce (i / 32)).1.length := h2
  simp only [strmB, List.getElem_map, List.getElem_range, List.getD_eq_getElem?_getD, List.getElem?_eq_getElem hi, List.getElem?_eq_getElem h3, Option.getD_some]
set_option maxHeartbeats 2000000 in
theorem stream_spec (key : Tg) (nonce : Nat) (hn : nonce < 18446744073709551616) (b : List UInt8) (hb : b.length ≤ 100000) (k : Nat) :
    ACall Tryz.prog 145 [tagAV key, .lit (.int .u64 nonce), .slice none (b.map byteAV)] k [] (.slice none ((strmB key.1 nonce b).map byteAV)) [] := by
  have c1 := Eight_row (nonce : Int) (by omega) (by omega)
  have hP := strmB_len key.1 nonce b
  obtain ⟨E1, hE1⟩ : ∃ e, eightB (nonce : Int) = e := ⟨_, rfl⟩
  have hE1l : E1.length = 8 := by rw [← hE1]; rfl
  rw [hE1] at c1
  obtain ⟨ky, hky⟩ : ∃ ky, key = ky := ⟨_, rfl⟩
  have hs1 := tagAV_sz key
  have hs2 := tagAV_cell key
  have hat := strmB_at key.1 nonce b
  generalize hPP : strmB key.1 nonce b = P at *
  have hAt : ∀ i (hi : i < b.length), P[i]'(by omega) = x8 b[i] ((kst key.1 nonce (i / 32)).1[i % 32]'(by rw [(kst key.1 nonce (i / 32)).2]; omega)) := fun i hi => hat i hi _ _
  clear hat hPP hky
  obtain ⟨K, hK⟩ := key
  have hkA : tagAV ⟨K, hK⟩ = .agg (K.map byteAV) := rfl
  simp only [hkA] at hs1 hs2 hAt ⊢
  clear hkA
  have hs3 : AV.celll (K.map byteAV) = true := celll_bytes K
  have htk : (K.map byteAV).take 32 = K.map byteAV := List.take_of_length_le (by rw [List.length_map]; omega)
  have hm0 := @mixN_0 P b
  refine Bd Tryz.func145 Tryz.ntmps145 fun σ N hp hpn hk hkn hfree => ?_
  have M : Mut (N + 2) := ⟨⟩
  refine Wk ?_
  refine go_fixBox N (bt := 26) (x := .agg (K.map byteAV)) (by simp (disch := omega) [go_sem, *, -List.reduceReplicate]) ?_
  refine go_loopF mixed (by kernel_rfl) [8, 9, 13, 14, 15, 16, 17, 18, 19, 20, 21, 22, 23, 24, 25, 26, 27, 28, 29, 30, 31, 32, 33, 34, 35, 36, 37, 38, 39, 40] [N, N+2] (fun m_ s_ σ_ n_ => ∃ (i : Nat) (cur : List UInt8), m_ = b.length - i ∧ s_ 8 = .lit (.int .i64 i) ∧ s_ 7 = .ms (N + 2) 1 1 0 b.length ∧ σ_ (N) = .fbox 26 (.agg (K.map byteAV)) ∧ σ_ (N+2) = .mrow 1 5 1 (cur.map byteAV) ∧ (i ≤ b.length) ∧ (mixN P b i = cur)) ⟨_, 0, b, rfl, WF, WF, WF, WF, WC, WC⟩ ?_
  intro m_1 s_1 σ_1 n_1 hs_1 hf_1 hn_1 hI_1
  obtain ⟨i, cur, hm_1, h1_8, h1_7, e1_0, e1_1, hi, hc⟩ := hI_1
  have h1_1 := KS hs_1 1
  have h1_3 := KS hs_1 3
  have h1_6 := KS hs_1 6
  have h1_7 := KS hs_1 7
  have hlow := KL (N := N) (σ := σ) hf_1
  clear hm0
  have hcl := mixN_len hP i hi
  rw [hc] at hcl
  by_cases hil : i = b.length
  · subst hil
    rw [mixN_all hP] at hc
    subst hc
    clear M hAt
    refine Wm ?_
    iterate 1 refine Wz ?_
    refine go_freeze 7 (id := N + 2) (ver := 1) (size := 1) (e := 5) (xs := P.map byteAV) (k := b.length) (by simp (disch := omega) [go_sem, *, -List.reduceReplicate]) (by simp (disch := omega) [go_sem, *, -List.reduceReplicate]) (by simp (disch := omega) [go_sem, *, -List.reduceReplicate]) ?_
    exact WM
  · have hi2 : i < b.length := by omega
    have hi2i : (i : Int) < (b.length : Int) := by omega
    have ha0 := mixN_at hP i hi2
    have hs := mixN_set hP i (by omega)
    have hA := hAt i hi2
    rw [hc] at ha0 hs
    have hic : i < cur.length := by omega
    rw [List.getElem?_eq_getElem hic, List.getElem?_eq_getElem hi2] at ha0
    injection ha0 with ha
    have c2 := Eight_spec ((i / 32 : Nat) : Int) (by omega) (by omega)
    have hkt : kst K nonce (i / 32) = hmacT K ([115, 116, 114, 101, 97, 109] ++ (eightB nonce ++ eightB ((i / 32 : Nat) : Int))) := rfl
    have hE2l := eightB_len ((i / 32 : Nat) : Int)
    rw [hE1] at hkt
    generalize eightB ((i / 32 : Nat) : Int) = E2 at *
    have c3 := Word_spec [115, 116, 114, 101, 97, 109] (E1 ++ E2) (by decide) (by simp; omega)
    have c4 := Hmac_spec K ([115, 116, 114, 101, 97, 109] ++ (E1 ++ E2)) (by omega) (by simp; omega)
    rw [← hkt] at c4
    generalize kst K nonce (i / 32) = T at *
    generalize [115, 116, 114, 101, 97, 109] ++ (E1 ++ E2) = Wd at *
    have hq : (i : Int).tdiv 32 = ((i / 32 : Nat) : Int) := by rw [Int.tdiv_eq_ediv_of_nonneg (by omega)]; omega
    have hr : (i : Int).tmod 32 = ((i % 32 : Nat) : Int) := by rw [Int.tmod_eq_emod_of_nonneg (by omega)]; omega
    have hr32 : i % 32 < 32 := Nat.mod_lt _ (by decide)
    have hq32 : i / 32 ≤ 100000 := by omega
    clear hkt
    obtain ⟨y, hy⟩ : ∃ y, T.1[i % 32]'(by rw [T.2]; exact hr32) = y := ⟨_, rfl⟩
    obtain ⟨z, hz⟩ : ∃ z, b[i] = z := ⟨_, rfl⟩
    rw [hy, hz] at hA
    rw [hz] at ha
    have hx := x8_eq z y
    have hset := set_bytes cur i (x8 z y)
    rw [← hA, hs, hA] at hset
    generalize x8 z y = v at *
    have hyb : byteAV y = .lit (.int .u8 y.toNat) := rfl
    have hzb : byteAV z = .lit (.int .u8 z.toNat) := rfl
    have hvb : byteAV v = .lit (.int .u8 v.toNat) := rfl
    rw [hvb] at hset
    generalize hc' : mixN P b (i + 1) = cn at *
    generalize i / 32 = iq at *
    generalize hir : i % 32 = ir at *
    have hcs := And.intro c1 (And.intro c2 (And.intro c3 (And.intro c4 True.intro)))
    clear c1 c2 c3 c4 hs hc M hAt hz hA hir
    refine Wk ?_
    exact ⟨WS, WG, WN, _, (show b.length - (i + 1) < m_1 by omega), i + 1, cn, rfl, WF, WF, WF, WF, WC, WC⟩
end
end Go.Proofs.YtemmlldpmgfblaaGreatDoor

/- Algebras: Seal of the reference. -/
namespace Go.Proofs.YtemmlldpmgfblaaGreatDoor
open Go.Ab
attribute [local irreducible] Go.Ab.tyAV Go.Ab.aw Go.Ab.aops Go.Ab.kReg Go.Ab.aThen Go.Ab.aBlk Go.Ab.acond Go.Ab.aguard Go.Ab.astep Go.Ab.AStepX Go.Ab.aRet
attribute [local irreducible] shaG

/-- The box of the entry with a key, a number and bytes. -/
def boxL (key : Tg) (nonce : Int) (plain : List UInt8) : List BoxE → Option (List UInt8)
  | [] => none
  | e :: r => if e.key = key ∧ e.nonce = nonce ∧ e.plain = plain then some e.box else boxL key nonce plain r
def skAV (r : Alg × List UInt8 × Nat) : AV := .tup [algAV r.1, .slice none (r.2.1.map byteAV), .lit (.int .i64 (r.2.2 : Nat))]
theorem snocB {K plain box : List UInt8} {nonce : Int} (L : List BoxE) (hK : K.length = 32) (a b c : Option Nat) : AV.le (.slice a (L.map sealAV ++ [.agg [.agg (K.map byteAV), .lit (.int .i64 nonce), .slice b (plain.map byteAV), .slice c (box.map byteAV)]])) (.slice none ((L ++ [(⟨⟨K, hK⟩, nonce, plain, box⟩ : BoxE)]).map sealAV)) := fun g v h => by
  rw [List.map_append]
  exact AV.le_own _ _ g v (AV.le_sliceS a (ALe.snoc (AV.sub_agg (.cons (AV.le_refl _) (.cons (AV.le_refl _) (.cons (AV.le_own b _) (.cons (AV.le_own c _) .nil)))))) g v h)

section
variable [W : W32]
def sealB (key : List UInt8) (nonce : Int) (plain : List UInt8) : List UInt8 :=
  (eightB nonce ++ strmB key nonce plain) ++ (hmacT key ([98, 111, 120] ++ (eightB nonce ++ strmB key nonce plain))).1
def sealN (a : Alg) (key : Tg) (nonce : Int) (plain : List UInt8) : List UInt8 :=
  if a.free then (symT 98 (a.boxes.length + 1)).1 ++ List.replicate (plain.length + 8) 0 else sealB key.1 nonce plain
def sealS (a : Alg) (key : Tg) (nonce : Int) (plain : List UInt8) : Alg × List UInt8 × Nat :=
  if nonce < 0 ∨ 281474976710656 < nonce then (alg0, [], 1) else if 256 < plain.length then (alg0, [], 2) else match boxL key nonce plain a.boxes with
    | some b => (a, b, 0)
    | none => if 65536 ≤ a.boxes.length then (alg0, [], 2) else ({ a with boxes := a.boxes ++ [⟨key, nonce, plain, sealN a key nonce plain⟩] }, sealN a key nonce plain, 0)

theorem Seal_bad (a : Alg) (key : Tg) (nonce : Int) (plain : List UInt8) (h : (nonce < 0 ∨ 281474976710656 < nonce) ∨ 256 < plain.length) (k : Nat) :
    ACall Tryz.prog 72 [algAV a, tagAV key, .lit (.int .i64 nonce), .slice none (plain.map byteAV)] k [] (skAV (sealS a key nonce plain)) [] := by
  unfold sealS
  by_cases h1 : nonce < 0 ∨ 281474976710656 < nonce
  · rw [if_pos h1]
    unfold skAV
    simp only [alg0_eq, List.map_nil]
    rcases h1 with h1 | h1
    · refine Bd Tryz.func72 Tryz.ntmps72 fun σ N hp hpn hk hkn hfree => ?_
      exact WT
    · have h2 : ¬ nonce < 0 := by omega
      refine Bd Tryz.func72 Tryz.ntmps72 fun σ N hp hpn hk hkn hfree => ?_
      exact WT
  · rw [if_neg h1]
    have h3 : 256 < plain.length := h.resolve_left h1
    rw [if_pos h3]
    have h2 : ¬ nonce < 0 := by omega
    have h4 : ¬ 281474976710656 < nonce := by omega
    have h5 : (256 : Int) < plain.length := by omega
    unfold skAV
    simp only [alg0_eq, List.map_nil]
    clear h h1
    refine Bd Tryz.func72 Tryz.ntmps72 fun σ N hp hpn hk hkn hfree => ?_
    exact WT

set_option maxHeartbeats 4000000 in
theorem Seal_ok (a : Alg) (key : Tg) (nn : Nat) (plain : List UInt8) (hn : nn ≤ 281474976710656) (hp : plain.length ≤ 256) (hl : a.boxes.length ≤ 1000000) (hm : ∀ e ∈ a.boxes, e.plain.length ≤ 100000 ∧ e.box.length ≤ 100000) (k : Nat) :
    ACall Tryz.prog 72 [algAV a, tagAV key, .lit (.int .i64 nn), .slice none (plain.map byteAV)] k [] (skAV (sealS a key nn plain)) [] := by
  unfold sealS
  rw [if_neg (by omega), if_neg (by omega)]
  obtain ⟨fr, sd, fs, L, B⟩ := a
  simp only at hl hm ⊢
  have g1 : ¬ (nn : Int) < 0 := by omega
  have g2 : ¬ (281474976710656 : Int) < (nn : Int) := by omega
  have g3 : ¬ (256 : Int) < (plain.length : Int) := by omega
  generalize hR : boxL key nn plain B = R
  refine Bd Tryz.func72 Tryz.ntmps72 fun σ N hp hpn hk hkn hfree => ?_
  refine Wk ?_
  refine go_loopF mixed (by kernel_rfl) [9, 10, 11, 12, 27, 28, 29, 30, 31, 32, 33, 34, 35, 36, 37, 38, 39, 40, 41, 42, 43, 44, 45, 46, 47, 48, 49, 50, 51, 52, 53, 54, 55, 56, 57, 58, 59] [N, N+1, N+2] (fun m_ s_ σ_ n_ => ∃ (u : Nat), m_ = B.length - u ∧ s_ 11 = .lit (.int .i64 u) ∧ σ_ (N) = .box 36 (algAV ⟨fr, sd, fs, L, B⟩) ∧ σ_ (N+1) = .box 26 (tagAV key) ∧ σ_ (N+2) = .box 36 (.agg [.lit (.bool false), tagAV zeroTag, .lit (.int .i64 0), .nils, .nils]) ∧ (u ≤ B.length) ∧ (boxL key nn plain (B.drop u) = R)) ⟨_, 0, rfl, WF, WF, WF, WF, WC, WC⟩ ?_
  intro m_1 s_1 σ_1 n_1 hs_1 hf_1 hn_1 hI_1
  obtain ⟨u, hm_1, h1_11, e1_0, e1_1, e1_2, hu, hd⟩ := hI_1
  have h1_2 := KS hs_1 2
  have h1_3 := KS hs_1 3
  have h1_4 := KS hs_1 4
  have h1_5 := KS hs_1 5
  have h1_8 := KS hs_1 8
  have hlow := KL (N := N) (σ := σ) hf_1
  have haA : algAV ⟨fr, sd, fs, L, B⟩ = .agg [.lit (.bool fr), tagAV sd, .lit (.int .i64 fs), .slice none (L.map macAV), .slice none (B.map sealAV)] := rfl
  rw [haA] at e1_0
  by_cases hul : u = B.length
  · subst hul
    rw [List.drop_length] at hd
    simp only [boxL] at hd
    subst hd
    clear hR hm
    by_cases hf : 65536 ≤ B.length
    · have hfi : (65536 : Int) ≤ (B.length : Int) := by omega
      simp only [if_pos hf]
      unfold skAV
      simp only [alg0_eq, List.map_nil]
      exact WT
    · have hfi : ¬ (65536 : Int) ≤ (B.length : Int) := by omega
      simp only [if_neg hf]
      have hb : (B.length + 1) * 88 ≤ 140737488355328 := by omega
      have hb0 : B.length * 88 ≤ 140737488355328 := by omega
      have hb1 : B.length ≤ 140737488355327 := by omega
      have hs1 := tagAV_sz key
      have hs2 := tagAV_cell key
      unfold skAV sealN
      cases fr with
      | false =>
        simp only [Bool.false_eq_true, if_false]
        have c1 := Eight_row (nn : Int) (by omega) (by omega)
        have c2 := stream_spec key nn (by omega) plain (by omega)
        have hE := eightB_len (nn : Int)
        have hS := strmB_len key.1 (nn : Int) plain
        unfold sealB
        obtain ⟨K, hK⟩ := key
        simp only at c2 hS ⊢
        generalize eightB (nn : Int) = E at *
        generalize strmB K (nn : Int) plain = S at *
        obtain ⟨b0, hb0'⟩ : ∃ b0, E ++ S = b0 := ⟨_, rfl⟩
        have hbm : E.map byteAV ++ S.map byteAV = b0.map byteAV := by rw [← hb0', List.map_append]
        have hbl : b0.length = 8 + plain.length := by rw [← hb0', List.length_append]; omega
        rw [hb0']
        have c3 := Word_spec [98, 111, 120] b0 (by decide) (by omega)
        have c4 := Hmac_spec K ([98, 111, 120] ++ b0) (by omega) (by simp; omega)
        generalize hmacT K ([98, 111, 120] ++ b0) = T at *
        generalize [98, 111, 120] ++ b0 = Wd at *
        have ht1 := tagAV_sz T
        have ht2 := tagAV_cell T
        obtain ⟨T, hT⟩ := T
        have hkA : tagAV ⟨K, hK⟩ = .agg (K.map byteAV) := rfl
        have htA : tagAV ⟨T, hT⟩ = .agg (T.map byteAV) := rfl
        rw [htA] at c4 ht1 ht2
        rw [hkA] at c2 hs1 hs2 e1_1
        clear hkA htA
        have hs3 : AV.celll (K.map byteAV) = true := celll_bytes K
        have htk : (K.map byteAV).take 32 = K.map byteAV := List.take_of_length_le (by rw [List.length_map]; omega)
        have htk2 : (T.map byteAV).take 32 = T.map byteAV := List.take_of_length_le (by rw [List.length_map]; omega)
        obtain ⟨bb, hbb⟩ : ∃ bb, b0 ++ T = bb := ⟨_, rfl⟩
        have hbbm : b0.map byteAV ++ T.map byteAV = bb.map byteAV := by rw [← hbb, List.map_append]
        have hbbl : b0.length + T.length = bb.length := by rw [← hbb, List.length_append]
        have hbb2 : bb.length ≤ 1000 := by omega
        rw [hbb]
        have hcs := And.intro c1 (And.intro c2 (And.intro c3 (And.intro c4 True.intro)))
        clear c1 c2 c3 c4 hbb hb0'
        refine Wm ?_
        iterate 8 refine Wz ?_
        refine go_lessIn N [4] (.slice none ((B ++ [(⟨⟨K, hK⟩, nn, plain, bb⟩ : BoxE)]).map sealAV)) (bt := 36) (c := .agg [.lit (.bool false), tagAV sd, .lit (.int .i64 fs), .slice none (L.map macAV), .slice (some (n_1 + 32)) (B.map sealAV ++ [.agg [.agg (K.map byteAV), .lit (.int .i64 nn), .slice (some (n_1 + 32 + 6)) (plain.map byteAV), .slice (some (n_1 + 12 + 2)) (bb.map byteAV)]])]) (by simp (disch := omega) [go_sem, *, -List.reduceReplicate]) rfl (snocB B hK _ _ _) rfl rfl ?_
        simp only [algAV]
        exact WT
      | true =>
        simp only [if_true]
        have c1 := Symbol_spec 98 (B.length + 1) (by omega)
        have e98 : ((98 : UInt8).toNat : Int) = 98 := rfl
        have hn1 : ((B.length + 1 : Nat) : Int) = (B.length : Int) + 1 := by omega
        rw [e98, hn1] at c1
        clear e98 hn1
        generalize symT 98 ((B.length : Int) + 1) = T at *
        have ht1 := tagAV_sz T
        have ht2 := tagAV_cell T
        obtain ⟨T, hT⟩ := T
        obtain ⟨K, hK⟩ := key
        have hkA : tagAV ⟨K, hK⟩ = .agg (K.map byteAV) := rfl
        have htA : tagAV ⟨T, hT⟩ = .agg (T.map byteAV) := rfl
        rw [htA] at c1 ht1 ht2
        rw [hkA] at hs1 hs2 e1_1
        clear hkA htA
        simp only
        have hs3 : AV.celll (K.map byteAV) = true := celll_bytes K
        obtain ⟨bb, hbb⟩ : ∃ bb, T ++ List.replicate (plain.length + 8) 0 = bb := ⟨_, rfl⟩
        have hbbm : T.map byteAV ++ List.replicate ((plain.length : Int) + 8).toNat (AV.lit (.int .u8 0)) = bb.map byteAV := by
          rw [← hbb, List.map_append, List.map_replicate, show ((plain.length : Int) + 8).toNat = plain.length + 8 by omega]; rfl
        have hbb2 : bb.length ≤ 1000 := by rw [← hbb, List.length_append, List.length_replicate]; omega
        have hbbl : 32 + ((plain.length : Int) + 8).toNat = bb.length := by rw [← hbb, List.length_append, List.length_replicate, hT]; omega
        rw [hbb]
        have hcs := And.intro c1 True.intro
        clear c1 hbb
        refine Wm ?_
        iterate 5 refine Wz ?_
        (apply go_region; (· (simp only [List.length_cons, List.length_nil, Nat.reduceAdd, Nat.add_assoc]; rfl)))
        refine go_sliceWhole (id := n_1 + 12 + 5) (path := []) (off := 0) (bt := 26) (c := .agg (T.map byteAV)) (ys := T.map byteAV) (by simp (disch := omega) [go_sem, *, -List.reduceReplicate]) (by simp (disch := omega) [go_sem, *, -List.reduceReplicate]) pa26 rfl rfl (by rw [List.length_map]; exact hT) (bytes_all1 T) (by unfold maxLen; omega) ?_
        refine Wm ?_
        refine go_appendzC (xs := T.map byteAV) (q := (plain.length : Int) + 8) (by simp (disch := omega) [go_sem, *, -List.reduceReplicate]) si57 it3 rfl (by simp) (by simp (disch := omega) [go_sem, *, -List.reduceReplicate]; try rfl) (by omega) (bytes_all1 T) (by rw [List.length_map, hT, hbbl]; omega) (by rw [List.length_map, hT, hbbl]; omega) ?_
        rw [hbbm, List.length_map, hT, hbbl]
        refine Wm ?_
        iterate 1 refine Wz ?_
        refine go_lessIn N [4] (.slice none ((B ++ [(⟨⟨K, hK⟩, nn, plain, bb⟩ : BoxE)]).map sealAV)) (bt := 36) (c := .agg [.lit (.bool true), tagAV sd, .lit (.int .i64 fs), .slice none (L.map macAV), .slice (some (n_1 + 25)) (B.map sealAV ++ [.agg [.agg (K.map byteAV), .lit (.int .i64 nn), .slice (some (n_1 + 25 + 6)) (plain.map byteAV), .slice (some (n_1 + 19 + 4)) (bb.map byteAV)]])]) (by simp (disch := omega) [go_sem, *, -List.reduceReplicate]) rfl (snocB B hK _ _ _) rfl rfl ?_
        simp only [algAV]
        exact WT
  · have hu1 : u < B.length := by omega
    rw [List.drop_eq_getElem_cons hu1, boxL] at hd
    have hmz := hm _ (List.getElem_mem hu1)
    obtain ⟨z, hz⟩ : ∃ z, B[u] = z := ⟨_, rfl⟩
    rw [hz] at hd hmz
    obtain ⟨zk, zn, zp, zb⟩ := z
    simp only at hd hmz
    have hzd : sealAV ⟨zk, zn, zp, zb⟩ = .agg [tagAV zk, .lit (.int .i64 zn), bAV zp, bAV zb] := rfl
    have hzb := bAV_def zp
    have hzb2 := bAV_def zb
    obtain ⟨hmz1, hmz2⟩ := hmz
    have c1 := Same_spec zp plain (by omega)
    clear hR hm
    by_cases h1 : zk = key
    · by_cases h2 : zn = nn
      · by_cases h3 : zp = plain
        · rw [if_pos ⟨h1, h2, h3⟩] at hd
          subst hd
          rw [decide_eq_true h3] at c1
          have hcs := And.intro c1 True.intro
          clear c1
          subst h1
          subst h2
          subst h3
          unfold skAV
          simp only [haA]
          exact WT
        · rw [if_neg (fun h => h3 h.2.2)] at hd
          rw [decide_eq_false h3] at c1
          have hcs := And.intro c1 True.intro
          clear c1
          subst h1
          subst h2
          refine Wk ?_
          exact ⟨WS, WG, WN, _, (show B.length - (u + 1) < m_1 by omega), u + 1, rfl, WF, WF, WF, WF, WC, WC⟩
      · rw [if_neg (fun h => h2 h.2.1)] at hd
        have h2' : (zn == (nn : Int)) = false := by rw [beq_eq_false_iff_ne]; exact h2
        clear c1
        subst h1
        refine Wk ?_
        exact ⟨WS, WG, WN, _, (show B.length - (u + 1) < m_1 by omega), u + 1, rfl, WF, WF, WF, WF, WC, WC⟩
    · rw [if_neg (fun h => h1 h.1)] at hd
      have d1 : decide (zk = key) = false := decide_eq_false h1
      clear c1
      refine Wk ?_
      exact ⟨WS, WG, WN, _, (show B.length - (u + 1) < m_1 by omega), u + 1, rfl, WF, WF, WF, WF, WC, WC⟩
end
end Go.Proofs.YtemmlldpmgfblaaGreatDoor

/- The deck: Tag. -/
namespace Go.Proofs.YtemmlldpmgfblaaGreatDoor
open Go.Ab
attribute [local irreducible] Go.Ab.tyAV Go.Ab.aw Go.Ab.aops Go.Ab.kReg Go.Ab.aThen Go.Ab.aBlk Go.Ab.acond Go.Ab.aguard Go.Ab.astep Go.Ab.AStepX Go.Ab.aRet

def tagSt (l : List Int) (i : Nat) : Nat → Tg × Nat
  | 0 => (zeroTag, i)
  | u + 1 => (setT (tagSt l i u).1 (u * 9) (UInt8.ofNat (nextD l (tagSt l i u).2 256).1), (nextD l (tagSt l i u).2 256).2)
theorem tagSt_dk {l : List Int} {i : Nat} (h : Dk l i) : ∀ u, Dk l (tagSt l i u).2
  | 0 => h
  | u + 1 => nextD_dk 256 (tagSt_dk h u)
def tagD (l : List Int) (i : Nat) : Tg × Nat := tagSt l i 4
theorem tagD_dk {l : List Int} {i : Nat} (h : Dk l i) : Dk l (tagD l i).2 := tagSt_dk h 4

theorem Tag_spec (l : List Int) (i : Nat) (h : Dk l i) (d k : Nat) :
    ACall Tryz.prog 28 [.ptr d [] 0] k [(d, deckBox l i)] (tagAV (tagD l i).1) [(d, deckBox l (tagD l i).2)] := by
  refine Bd Tryz.func28 Tryz.ntmps28 fun σ N hp hpn hk hkn hfree => ?_
  have hd := hp _ (List.mem_singleton.2 rfl)
  have hdn := hpn _ (List.mem_singleton.2 rfl)
  simp only at hd hdn
  clear hp hpn
  refine Wg ?_
  refine go_loop (aloop mixed (by kernel_rfl) (fun c => ∃ (u : Nat), c.s 0 = .ptr d [] 0 ∧ c.s 4 = .lit (.int .i64 u) ∧ u ≤ 4 ∧ c.s 2 = .ptr N [] 0 ∧ c.σ N = .box 26 (tagAV zeroTag) ∧ c.s 3 = .ptr (N + 1) [] 0 ∧ c.σ (N + 1) = .box 26 (tagAV (tagSt l i u).1) ∧ c.σ d = deckBox l (tagSt l i u).2 ∧ N + 1 < c.n ∧ (∀ id, id < N → id ≠ d → c.σ id = σ id))
    (fun c => match c.s 4 with | .lit (.int _ m) => 4 - m.toNat | _ => 0) ⟨0, by simp (disch := omega) [go_sem, *, -List.reduceReplicate], by simp (disch := omega) [go_sem, *, -List.reduceReplicate], by omega, by simp (disch := omega) [go_sem, *, -List.reduceReplicate], by simp (disch := omega) [go_sem, *, -List.reduceReplicate], by simp (disch := omega) [go_sem, *, -List.reduceReplicate], by simp (disch := omega) [go_sem, *, -List.reduceReplicate]; rfl, by simp (disch := omega) [go_sem, *, -List.reduceReplicate]; rfl, by simp only; omega, (fun id hid hdd => by simp (disch := omega) only [upd_ne, wr_cons, wr_nil])⟩ ?_)
  rintro ⟨s, σ', n'⟩ ⟨u, h0, h4, hu, h2, hN, h3, hN1, hdk, hn', hlow⟩
  simp only at h0 h4 h2 hN h3 hN1 hdk hn' hlow
  by_cases hu4 : u = 4
  · subst hu4
    unfold tagD
    generalize tagSt l i 4 = X at hN1 hdk ⊢
    obtain ⟨T, j⟩ := X
    simp only at hN1 hdk ⊢
    refine Wg ?_
    refine go_condF (by simp (disch := omega) [go_sem, *, -List.reduceReplicate]; try first | rfl | omega) ?_
    refine Wg ?_
    exact RW (d) (deckBox l j)
  · have hj := tagSt_dk h u
    have hs1 : (tagSt l i (u + 1)).1 = setT (tagSt l i u).1 (u * 9) (UInt8.ofNat (nextD l (tagSt l i u).2 256).1) := rfl
    have hs2 : (tagSt l i (u + 1)).2 = (nextD l (tagSt l i u).2 256).2 := rfl
    generalize tagSt l i u = X at hj hs1 hs2 hN1 hdk
    obtain ⟨T, j⟩ := X
    simp only at hj hs1 hs2 hN1 hdk
    have c1 := Next_spec l j 256 hj (by omega) (by omega)
    have hl1 := nextD_lt l j 256 (by omega)
    generalize nextD l j 256 = X at c1 hl1 hs1 hs2
    obtain ⟨a, j2⟩ := X
    simp only at c1 hl1 hs1 hs2
    have hi1 : ((u : Int) * 9).toNat = u * 9 := by omega
    have hw : IntKind.u8.wrap (a : Int) = a := by rw [IntKind.wrap_u8]; omega
    have hi3 : u * 9 < 32 := by omega
    clear hj h
    refine Wg ?_
    refine go_condT (by simp (disch := omega) [go_sem, *, -List.reduceReplicate]; try first | rfl | omega) ?_
    refine Wg ?_
    refine go_callw (c1 _ _) (by simp (disch := omega) [go_sem, *, -List.reduceReplicate]; try rfl) (by simp (disch := omega) [go_sem, *, -List.reduceReplicate]; repeat' first | exact ALe.nil | exact AV.le_refl _ | exact AV.le_nils | exact AV.le_own _ _ | apply ALe.cons | apply AV.sub_agg) (by simp (disch := omega) [go_sem, *, -List.reduceReplicate]) ?_
    refine Wg ?_
    refine ⟨⟨u + 1, by simp (disch := omega) [go_sem, *, -List.reduceReplicate], by simp (disch := omega) [go_sem, *, -List.reduceReplicate], by omega, by simp (disch := omega) [go_sem, *, -List.reduceReplicate], by simp (disch := omega) [go_sem, *, -List.reduceReplicate], by simp (disch := omega) [go_sem, *, -List.reduceReplicate], by rw [hs1]; simp (disch := omega) [go_sem, *, -List.reduceReplicate], by rw [hs2]; simp (disch := omega) [go_sem, *, -List.reduceReplicate], by simp only; omega, (fun id hid hdd => by simp (disch := omega) only [upd_ne, wr_cons, wr_nil]; exact hlow id hid hdd)⟩, ?_⟩
    simp (disch := omega) [go_sem, *, -List.reduceReplicate]
    omega


end Go.Proofs.YtemmlldpmgfblaaGreatDoor

/- The deck's Minute, Name, Bytes. -/
namespace Go.Proofs.YtemmlldpmgfblaaGreatDoor
open Go.Ab
attribute [local irreducible] Go.Ab.tyAV Go.Ab.aw Go.Ab.aops Go.Ab.kReg Go.Ab.aThen Go.Ab.aBlk Go.Ab.acond Go.Ab.aguard Go.Ab.astep Go.Ab.AStepX Go.Ab.aRet

def minuteD (l : List Int) (i : Nat) : Nat × Nat :=
  let k := nextD l i 4
  if k.1 = 0 then nextD l k.2 4320
  else if k.1 = 1 then (min ((nextD l k.2 60).1 * 1440 + (nextD l (nextD l k.2 60).2 3).1) 67108864, (nextD l (nextD l k.2 60).2 3).2)
  else if k.1 = 2 then (67108864 - (nextD l k.2 4320).1, (nextD l k.2 4320).2)
  else nextD l k.2 67108865
theorem minuteD_le (l : List Int) (i : Nat) : (minuteD l i).1 ≤ 67108864 := by
  unfold minuteD
  simp only
  split
  · have := nextD_lt l (nextD l i 4).2 4320 (by omega); omega
  · split
    · simp only; omega
    · split
      · simp only; omega
      · have := nextD_lt l (nextD l i 4).2 67108865 (by omega); omega
theorem minuteD_dk {l : List Int} {i : Nat} (h : Dk l i) : Dk l (minuteD l i).2 := by
  unfold minuteD
  simp only
  split
  · exact nextD_dk _ (nextD_dk _ h)
  · split
    · exact nextD_dk _ (nextD_dk _ (nextD_dk _ h))
    · split
      · exact nextD_dk _ (nextD_dk _ h)
      · exact nextD_dk _ (nextD_dk _ h)

theorem Minute_spec (l : List Int) (i : Nat) (h : Dk l i) (d k : Nat) :
    ACall Tryz.prog 36 [.ptr d [] 0] k [(d, deckBox l i)] (.lit (.int .i64 (minuteD l i).1)) [(d, deckBox l (minuteD l i).2)] := by
  have c1 := Next_spec l i 4 h (by omega) (by omega)
  have d1 := nextD_dk 4 h
  unfold minuteD
  generalize nextD l i 4 = X at c1 d1 ⊢
  obtain ⟨x, j⟩ := X
  simp only at c1 d1 ⊢
  clear h
  by_cases e0 : x = 0
  · subst e0
    simp only [if_true]
    have c2 := Next_spec l j 4320 d1 (by omega) (by omega)
    generalize nextD l j 4320 = X at c2 ⊢
    obtain ⟨y, j2⟩ := X
    simp only at c2 ⊢
    clear d1
    refine Bd Tryz.func36 Tryz.ntmps36 fun σ N hp hpn hk hkn hfree => ?_
    have hd := hp _ (List.mem_singleton.2 rfl)
    have hdn := hpn _ (List.mem_singleton.2 rfl)
    simp only at hd hdn
    clear hp hpn
    have hcs := And.intro (c1 d) (And.intro (c2 d) True.intro)
    refine Wk ?_
    exact RW (d) (deckBox l j2)
  · simp only [e0, if_false]
    by_cases e1 : x = 1
    · subst e1
      simp only [if_true]
      have c2 := Next_spec l j 60 d1 (by omega) (by omega)
      have d2 := nextD_dk 60 d1
      have b2 := nextD_lt l j 60 (by omega)
      generalize nextD l j 60 = X at c2 d2 b2 ⊢
      obtain ⟨y, j2⟩ := X
      simp only at c2 d2 b2 ⊢
      have c3 := Next_spec l j2 3 d2 (by omega) (by omega)
      have b3 := nextD_lt l j2 3 (by omega)
      generalize nextD l j2 3 = X at c3 b3 ⊢
      obtain ⟨z, j3⟩ := X
      simp only at c3 b3 ⊢
      obtain ⟨w, hw⟩ : ∃ w : Nat, min (y * 1440 + z) 67108864 = w := ⟨_, rfl⟩
      have hw1 : (if (67108864 : Int) < (y : Int) * 1440 + z then (67108864 : Int) else (y : Int) * 1440 + z) = w := by split <;> omega
      rw [hw]
      clear d1 d2 hw
      refine Bd Tryz.func36 Tryz.ntmps36 fun σ N hp hpn hk hkn hfree => ?_
      have hd := hp _ (List.mem_singleton.2 rfl)
      have hdn := hpn _ (List.mem_singleton.2 rfl)
      simp only at hd hdn
      clear hp hpn
      have hcs := And.intro (c1 d) (And.intro (c2 d) (And.intro (c3 d) True.intro))
      refine Wk ?_
      exact RW (d) (deckBox l j3)
    · simp only [e1, if_false]
      by_cases e2 : x = 2
      · subst e2
        simp only [if_true]
        have c2 := Next_spec l j 4320 d1 (by omega) (by omega)
        have b2 := nextD_lt l j 4320 (by omega)
        generalize nextD l j 4320 = X at c2 b2 ⊢
        obtain ⟨y, j2⟩ := X
        simp only at c2 b2 ⊢
        have hw : (67108864 : Int) - (y : Int) = ((67108864 - y : Nat) : Int) := by omega
        rw [← hw]
        clear d1 hw
        refine Bd Tryz.func36 Tryz.ntmps36 fun σ N hp hpn hk hkn hfree => ?_
        have hd := hp _ (List.mem_singleton.2 rfl)
        have hdn := hpn _ (List.mem_singleton.2 rfl)
        simp only at hd hdn
        clear hp hpn
        have hcs := And.intro (c1 d) (And.intro (c2 d) True.intro)
        refine Wk ?_
        exact RW (d) (deckBox l j2)
      · simp only [e2, if_false]
        have c2 := Next_spec l j 67108865 d1 (by omega) (by omega)
        generalize nextD l j 67108865 = X at c2 ⊢
        obtain ⟨y, j2⟩ := X
        simp only at c2 ⊢
        clear d1
        refine Bd Tryz.func36 Tryz.ntmps36 fun σ N hp hpn hk hkn hfree => ?_
        have hd := hp _ (List.mem_singleton.2 rfl)
        have hdn := hpn _ (List.mem_singleton.2 rfl)
        simp only at hd hdn
        clear hp hpn
        have hcs := And.intro (c1 d) (And.intro (c2 d) True.intro)
        refine Wk ?_
        exact RW (d) (deckBox l j2)

def names8 : List (List UInt8) := [[97], [98], [97, 110, 110], [98, 111, 98], [99, 105, 100], [122, 111, 101], [97, 97], [97, 98, 99, 100, 101, 102, 103, 104, 105, 106, 107, 108, 109, 110, 111, 112]]
def nameD (l : List Int) (i : Nat) : List UInt8 × Nat := (names8.getD (nextD l i 8).1 [], (nextD l i 8).2)
theorem nameD_dk {l : List Int} {i : Nat} (h : Dk l i) : Dk l (nameD l i).2 := nextD_dk 8 h
theorem Name_spec0 (l : List Int) (i : Nat) (h : Dk l i) (d k : Nat) :
    ACall Tryz.prog 35 [.ptr d [] 0] k [(d, deckBox l i)] (strAV (nameD l i).1) [(d, deckBox l (nameD l i).2)] := by
  have c1 := Next_spec l i 8 h (by omega) (by omega)
  have b1 := nextD_lt l i 8 (by omega)
  unfold nameD
  generalize nextD l i 8 = X at c1 b1 ⊢
  obtain ⟨x, j⟩ := X
  simp only at c1 b1 ⊢
  have hx : ∀ h : x < 8, ([AV.lit (.string (ByteArray.mk #[97])), .lit (.string (ByteArray.mk #[98])), .lit (.string (ByteArray.mk #[97, 110, 110])), .lit (.string (ByteArray.mk #[98, 111, 98])), .lit (.string (ByteArray.mk #[99, 105, 100])), .lit (.string (ByteArray.mk #[122, 111, 101])), .lit (.string (ByteArray.mk #[97, 97])), .lit (.string (ByteArray.mk #[97, 98, 99, 100, 101, 102, 103, 104, 105, 106, 107, 108, 109, 110, 111, 112]))] : List AV)[x] = strAV (names8.getD x []) := by
    intro h
    have : x = 0 ∨ x = 1 ∨ x = 2 ∨ x = 3 ∨ x = 4 ∨ x = 5 ∨ x = 6 ∨ x = 7 := by omega
    rcases this with rfl | rfl | rfl | rfl | rfl | rfl | rfl | rfl <;> rfl
  have hx2 := hx b1
  have hsz : (strAV (names8.getD x [])).sz = 1 := rfl
  have hag : (strAV (names8.getD x [])).isAgg = false := rfl
  have hrn : ∀ f, (strAV (names8.getD x [])).ren f = strAV (names8.getD x []) := fun _ => rfl
  generalize strAV (names8.getD x []) = r at *
  clear hx
  refine Bd Tryz.func35 Tryz.ntmps35 fun σ N hp hpn hk hkn hfree => ?_
  have hd := hp _ (List.mem_singleton.2 rfl)
  have hdn := hpn _ (List.mem_singleton.2 rfl)
  simp only at hd hdn
  clear hp hpn
  have hcs := And.intro (c1 d) True.intro
  refine Wk ?_
  exact RW (d) (deckBox l j)
end Go.Proofs.YtemmlldpmgfblaaGreatDoor

/- The deck: Known, Algebra. -/
namespace Go.Proofs.YtemmlldpmgfblaaGreatDoor
open Go.Ab
attribute [local irreducible] Go.Ab.tyAV Go.Ab.aw Go.Ab.aops Go.Ab.kReg Go.Ab.aThen Go.Ab.aBlk Go.Ab.acond Go.Ab.aguard Go.Ab.astep Go.Ab.AStepX Go.Ab.aRet
attribute [local irreducible] shaG

structure AlgIn (a : Alg) (m : Nat) : Prop where
  f0 : 0 ≤ a.fresh
  f1 : a.fresh ≤ m
  ml : a.macs.length ≤ m
  bl : a.boxes.length ≤ m
  mm : ∀ e ∈ a.macs, e.msg.length ≤ 100000
  bm : ∀ e ∈ a.boxes, e.plain.length ≤ 100000 ∧ e.box.length ≤ 100000
theorem AlgIn.more {a : Alg} {m m' : Nat} (h : AlgIn a m) (hm : m ≤ m') : AlgIn a m' := ⟨h.f0, Int.le_trans h.f1 (by omega), Nat.le_trans h.ml hm, Nat.le_trans h.bl hm, h.mm, h.bm⟩
theorem alg0_in (m : Nat) : AlgIn alg0 m := ⟨by simp [alg0], by simp [alg0], by simp [alg0], by simp [alg0], fun e he => by simp [alg0] at he, fun e he => by simp [alg0] at he⟩

section
variable [W : W32]
theorem keyS_in {a : Alg} {m : Nat} (h : AlgIn a m) : AlgIn (keyS a).1 (m + 1) := by
  unfold keyS
  split
  · exact alg0_in _
  · exact ⟨by have := h.f0; simp only; omega, by have := h.f1; simp only; omega, Nat.le_succ_of_le h.ml, Nat.le_succ_of_le h.bl, h.mm, h.bm⟩
theorem macS_in {a : Alg} {m : Nat} (h : AlgIn a m) (key : Tg) (msg : List UInt8) : AlgIn (macS a key msg).1 (m + 1) := by
  by_cases h1 : 4096 < msg.length
  · rw [macS_long h1]; exact alg0_in _
  · cases he : entL key msg a.macs with
    | some t => rw [macS_found h1 he]; exact h.more (Nat.le_succ _)
    | none =>
      by_cases hf : 65536 ≤ a.macs.length
      · rw [macS_full h1 he hf]; exact alg0_in _
      · rw [macS_new h1 he hf]
        refine ⟨h.f0, by have := h.f1; simp only; omega, by have := h.ml; simp; omega, Nat.le_succ_of_le h.bl, fun e hm => ?_, h.bm⟩
        rcases List.mem_append.1 hm with hm | hm
        · exact h.mm e hm
        · rw [List.mem_singleton.1 hm]; simp only; omega
theorem sealN_len (a : Alg) (key : Tg) (nonce : Int) (plain : List UInt8) : (sealN a key nonce plain).length ≤ plain.length + 40 := by
  unfold sealN
  split
  · rw [List.length_append, List.length_replicate, (symT _ _).2]; omega
  · unfold sealB
    rw [List.length_append, List.length_append, eightB_len, strmB_len, (hmacT _ _).2]; omega
theorem sealS_in {a : Alg} {m : Nat} (h : AlgIn a m) (key : Tg) (nonce : Int) (plain : List UInt8) : AlgIn (sealS a key nonce plain).1 (m + 1) := by
  unfold sealS
  split
  · exact alg0_in _
  · split
    · exact alg0_in _
    · rename_i hp
      split
      · exact h.more (Nat.le_succ _)
      · split
        · exact alg0_in _
        · have hl := sealN_len a key nonce plain
          refine ⟨h.f0, by have := h.f1; simp only; omega, Nat.le_succ_of_le h.ml, by have := h.bl; simp; omega, h.mm, fun e hm => ?_⟩
          rcases List.mem_append.1 hm with hm | hm
          · exact h.bm e hm
          · rw [List.mem_singleton.1 hm]; simp only; omega
theorem Seal_spec (a : Alg) (key : Tg) (nonce : Int) (plain : List UInt8) (hl : a.boxes.length ≤ 1000000) (hm : ∀ e ∈ a.boxes, e.plain.length ≤ 100000 ∧ e.box.length ≤ 100000) (k : Nat) :
    ACall Tryz.prog 72 [algAV a, tagAV key, .lit (.int .i64 nonce), .slice none (plain.map byteAV)] k [] (skAV (sealS a key nonce plain)) [] := by
  by_cases h : (nonce < 0 ∨ 281474976710656 < nonce) ∨ 256 < plain.length
  · exact Seal_bad a key nonce plain h k
  · obtain ⟨n, rfl⟩ := Int.eq_ofNat_of_zero_le (show 0 ≤ nonce by omega)
    exact Seal_ok a key n plain (by omega) (by omega) hl hm k

end
end Go.Proofs.YtemmlldpmgfblaaGreatDoor

/- Algebras: Look of the reference. -/
namespace Go.Proofs.YtemmlldpmgfblaaGreatDoor
open Go.Ab
attribute [local irreducible] Go.Ab.tyAV Go.Ab.aw Go.Ab.aops Go.Ab.kReg Go.Ab.aThen Go.Ab.aBlk Go.Ab.acond Go.Ab.aguard Go.Ab.astep Go.Ab.AStepX Go.Ab.aRet
attribute [local irreducible] shaG

section
variable [W : W32]
end
end Go.Proofs.YtemmlldpmgfblaaGreatDoor

/- Predicates: Valid. -/
namespace Go.Proofs.YtemmlldpmgfblaaGreatDoor
open Go.Ab
attribute [local irreducible] Go.Ab.tyAV Go.Ab.aw Go.Ab.aops Go.Ab.kReg Go.Ab.aThen Go.Ab.aBlk Go.Ab.acond Go.Ab.aguard Go.Ab.astep Go.Ab.AStepX Go.Ab.aRet

def bitsZ : List Int := [0, 64, 32, 7, 0, 0, 0, 0]
def bitsL : List AV := bitsZ.map fun z => .lit (.int .i64 z)
/-- The package-level table of bits. -/
def bitsG : Ent := .glob 0 (.agg bitsL)
@[simp, go_sem] theorem bitsG_ne : (bitsG = .none) = False := by simp [bitsG]
@[go_sem] theorem bitsL_1 : bitsL[1]? = some (.lit (.int .i64 64)) := rfl
@[go_sem] theorem bitsL_2 : bitsL[2]? = some (.lit (.int .i64 32)) := rfl
@[go_sem] theorem bitsL_3 : bitsL[3]? = some (.lit (.int .i64 7)) := rfl
@[go_sem] theorem bitsL_t1 : AV.szl (bitsL.take 1) = 1 := rfl
@[go_sem] theorem bitsL_t2 : AV.szl (bitsL.take 2) = 2 := rfl
@[go_sem] theorem bitsL_t3 : AV.szl (bitsL.take 3) = 3 := rfl

def predB (p : Pr) : Bool :=
  if p.kind = 1 then maskB p.mask 64 && decide (p = ⟨p.kind, p.mask, 0, 0, [], 0⟩)
  else if p.kind = 2 then maskB p.mask 32 && decide (p = ⟨p.kind, p.mask, 0, 0, [], 0⟩)
  else if p.kind = 3 then maskB p.mask 7 && decide (p = ⟨p.kind, p.mask, 0, 0, [], 0⟩)
  else if p.kind = 4 then decide (0 ≤ p.frm) && (decide (p.frm ≤ p.to) && (decide (p.to ≤ 67108864) && decide (p = ⟨p.kind, 0, p.frm, p.to, [], 0⟩)))
  else if p.kind = 5 then decide (0 ≤ p.frm) && (decide (p.frm < 1440) && (decide (0 ≤ p.to) && (decide (p.to < 1440) && decide (p = ⟨p.kind, 0, p.frm, p.to, [], 0⟩))))
  else if p.kind = 6 then nameB p.name && decide (p = ⟨p.kind, 0, 0, 0, p.name, 0⟩)
  else if p.kind = 7 then decide (0 ≤ p.num) && (decide (p.num ≤ 1000000) && decide (p = ⟨p.kind, 0, 0, 0, [], p.num⟩))
  else false
structure PrOk (p : Pr) : Prop where
  m0 : 0 ≤ p.mask
  m1 : p.mask < 18446744073709551616
  nl : p.name.length ≤ 9223372036854775807

set_option maxHeartbeats 4000000 in
theorem predValid_spec (p : Pr) (hp0 : PrOk p) (d k : Nat) :
    ACall Tryz.prog 76 [prAV p] k [(d, bitsG)] (.lit (.bool (predB p))) [] := by
  obtain ⟨kd, m, f, t, n, x⟩ := p
  obtain ⟨m0, m1, nl⟩ := hp0
  simp only at m0 m1 nl
  simp only [prAV, predB]
  by_cases h1 : kd = 1
  · subst h1
    simp only [Int.reduceEq, if_false, if_true]
    have c1 := mask_spec m m0 m1 64 (by decide)
    generalize maskB m 64 = b at *
    cases b <;> simp only [Bool.true_and, Bool.false_and]
    all_goals
      unfold bitsG
      refine Bd Tryz.func76 Tryz.ntmps76 fun σ N hp hpn hk hkn hfree => ?_
      obtain ⟨hd, hdn⟩ := HD0 hp hpn; clear hp hpn
      have G : GlobAt d 0 := ⟨⟩
      have hcs := And.intro c1 True.intro
      clear c1
      exact W0
  · skip
    by_cases h2 : kd = 2
    · subst h2
      simp only [Int.reduceEq, if_false, if_true]
      have c1 := mask_spec m m0 m1 32 (by decide)
      generalize maskB m 32 = b at *
      cases b <;> simp only [Bool.true_and, Bool.false_and]
      all_goals
        unfold bitsG
        refine Bd Tryz.func76 Tryz.ntmps76 fun σ N hp hpn hk hkn hfree => ?_
        obtain ⟨hd, hdn⟩ := HD0 hp hpn; clear hp hpn
        have G : GlobAt d 0 := ⟨⟩
        have hcs := And.intro c1 True.intro
        clear c1
        exact W0
    · skip
      by_cases h3 : kd = 3
      · subst h3
        simp only [Int.reduceEq, if_false, if_true]
        have c1 := mask_spec m m0 m1 7 (by decide)
        generalize maskB m 7 = b at *
        cases b <;> simp only [Bool.true_and, Bool.false_and]
        all_goals
          unfold bitsG
          refine Bd Tryz.func76 Tryz.ntmps76 fun σ N hp hpn hk hkn hfree => ?_
          obtain ⟨hd, hdn⟩ := HD0 hp hpn; clear hp hpn
          have G : GlobAt d 0 := ⟨⟩
          have hcs := And.intro c1 True.intro
          clear c1
          exact W0
      · skip
        by_cases h4 : kd = 4
        · subst h4
          simp only [Int.reduceEq, if_false, if_true]
          by_cases c1 : 0 ≤ f
          · by_cases c2 : f ≤ t
            · by_cases c3 : t ≤ 67108864
              · simp only [decide_eq_true c1, decide_eq_true c2, decide_eq_true c3, decide_true, Bool.true_and]
                unfold bitsG
                refine Bd Tryz.func76 Tryz.ntmps76 fun σ N hp hpn hk hkn hfree => ?_
                obtain ⟨hd, hdn⟩ := HD0 hp hpn; clear hp hpn
                have G : GlobAt d 0 := ⟨⟩
                exact W0
              · simp only [decide_eq_true c1, decide_eq_true c2, decide_eq_false c3, Bool.true_and, Bool.false_and]
                unfold bitsG
                refine Bd Tryz.func76 Tryz.ntmps76 fun σ N hp hpn hk hkn hfree => ?_
                obtain ⟨hd, hdn⟩ := HD0 hp hpn; clear hp hpn
                have G : GlobAt d 0 := ⟨⟩
                exact W0
            · simp only [decide_eq_true c1, decide_eq_false c2, Bool.true_and, Bool.false_and]
              unfold bitsG
              refine Bd Tryz.func76 Tryz.ntmps76 fun σ N hp hpn hk hkn hfree => ?_
              obtain ⟨hd, hdn⟩ := HD0 hp hpn; clear hp hpn
              have G : GlobAt d 0 := ⟨⟩
              exact W0
          · simp only [decide_eq_false c1, Bool.true_and, Bool.false_and]
            unfold bitsG
            refine Bd Tryz.func76 Tryz.ntmps76 fun σ N hp hpn hk hkn hfree => ?_
            obtain ⟨hd, hdn⟩ := HD0 hp hpn; clear hp hpn
            have G : GlobAt d 0 := ⟨⟩
            exact W0
        · skip
          by_cases h5 : kd = 5
          · subst h5
            simp only [Int.reduceEq, if_false, if_true]
            by_cases c1 : 0 ≤ f
            · by_cases c2 : f < 1440
              · by_cases c3 : 0 ≤ t
                · by_cases c4 : t < 1440
                  · simp only [decide_eq_true c1, decide_eq_true c2, decide_eq_true c3, decide_eq_true c4, decide_true, Bool.true_and]
                    unfold bitsG
                    refine Bd Tryz.func76 Tryz.ntmps76 fun σ N hp hpn hk hkn hfree => ?_
                    obtain ⟨hd, hdn⟩ := HD0 hp hpn; clear hp hpn
                    have G : GlobAt d 0 := ⟨⟩
                    exact W0
                  · simp only [decide_eq_true c1, decide_eq_true c2, decide_eq_true c3, decide_eq_false c4, Bool.true_and, Bool.false_and]
                    unfold bitsG
                    refine Bd Tryz.func76 Tryz.ntmps76 fun σ N hp hpn hk hkn hfree => ?_
                    obtain ⟨hd, hdn⟩ := HD0 hp hpn; clear hp hpn
                    have G : GlobAt d 0 := ⟨⟩
                    exact W0
                · simp only [decide_eq_true c1, decide_eq_true c2, decide_eq_false c3, Bool.true_and, Bool.false_and]
                  unfold bitsG
                  refine Bd Tryz.func76 Tryz.ntmps76 fun σ N hp hpn hk hkn hfree => ?_
                  obtain ⟨hd, hdn⟩ := HD0 hp hpn; clear hp hpn
                  have G : GlobAt d 0 := ⟨⟩
                  exact W0
              · simp only [decide_eq_true c1, decide_eq_false c2, Bool.true_and, Bool.false_and]
                unfold bitsG
                refine Bd Tryz.func76 Tryz.ntmps76 fun σ N hp hpn hk hkn hfree => ?_
                obtain ⟨hd, hdn⟩ := HD0 hp hpn; clear hp hpn
                have G : GlobAt d 0 := ⟨⟩
                exact W0
            · simp only [decide_eq_false c1, Bool.true_and, Bool.false_and]
              unfold bitsG
              refine Bd Tryz.func76 Tryz.ntmps76 fun σ N hp hpn hk hkn hfree => ?_
              obtain ⟨hd, hdn⟩ := HD0 hp hpn; clear hp hpn
              have G : GlobAt d 0 := ⟨⟩
              exact W0
          · skip
            by_cases h6 : kd = 6
            · subst h6
              simp only [Int.reduceEq, if_false, if_true]
              have c1 := name_spec n nl
              generalize nameB n = b at *
              cases b <;> simp only [Bool.true_and, Bool.false_and]
              all_goals
                unfold bitsG
                refine Bd Tryz.func76 Tryz.ntmps76 fun σ N hp hpn hk hkn hfree => ?_
                obtain ⟨hd, hdn⟩ := HD0 hp hpn; clear hp hpn
                have G : GlobAt d 0 := ⟨⟩
                have hcs := And.intro c1 True.intro
                clear c1
                exact W0
            · skip
              by_cases h7 : kd = 7
              · subst h7
                simp only [Int.reduceEq, if_false, if_true]
                by_cases c1 : 0 ≤ x
                · by_cases c2 : x ≤ 1000000
                  · simp only [decide_eq_true c1, decide_eq_true c2, decide_true, Bool.true_and]
                    unfold bitsG
                    refine Bd Tryz.func76 Tryz.ntmps76 fun σ N hp hpn hk hkn hfree => ?_
                    obtain ⟨hd, hdn⟩ := HD0 hp hpn; clear hp hpn
                    have G : GlobAt d 0 := ⟨⟩
                    exact W0
                  · simp only [decide_eq_true c1, decide_eq_false c2, Bool.true_and, Bool.false_and]
                    unfold bitsG
                    refine Bd Tryz.func76 Tryz.ntmps76 fun σ N hp hpn hk hkn hfree => ?_
                    obtain ⟨hd, hdn⟩ := HD0 hp hpn; clear hp hpn
                    have G : GlobAt d 0 := ⟨⟩
                    exact W0
                · simp only [decide_eq_false c1, Bool.true_and, Bool.false_and]
                  unfold bitsG
                  refine Bd Tryz.func76 Tryz.ntmps76 fun σ N hp hpn hk hkn hfree => ?_
                  obtain ⟨hd, hdn⟩ := HD0 hp hpn; clear hp hpn
                  have G : GlobAt d 0 := ⟨⟩
                  exact W0
              · skip
                simp only [if_neg h1, if_neg h2, if_neg h3, if_neg h4, if_neg h5, if_neg h6, if_neg h7]
                have g1 : (kd == 1) = false := by simp [h1]
                have g2 : (kd == 2) = false := by simp [h2]
                have g3 : (kd == 3) = false := by simp [h3]
                have g4 : (kd == 4) = false := by simp [h4]
                have g5 : (kd == 5) = false := by simp [h5]
                have g6 : (kd == 6) = false := by simp [h6]
                have g7 : (kd == 7) = false := by simp [h7]
                clear h1 h2 h3 h4 h5 h6 h7
                unfold bitsG
                refine Bd Tryz.func76 Tryz.ntmps76 fun σ N hp hpn hk hkn hfree => ?_
                obtain ⟨hd, hdn⟩ := HD0 hp hpn; clear hp hpn
                have G : GlobAt d 0 := ⟨⟩
                exact W0
set_option maxHeartbeats 4000000 in
theorem refPred_spec (p : Pr) (hp0 : PrOk p) (k : Nat) :
    ACall Tryz.prog 61 [prAV p] k [] (.lit (.bool (predB p))) [] := by
  obtain ⟨kd, m, f, t, n, x⟩ := p
  obtain ⟨m0, m1, nl⟩ := hp0
  simp only at m0 m1 nl
  simp only [prAV, predB]
  by_cases h1 : kd = 1
  · subst h1
    simp only [Int.reduceEq, if_false, if_true]
    unfold maskB
    by_cases hm : m = 0
    · subst hm
      simp only [ne_eq, not_true_eq_false, decide_false, Bool.false_and]
      refine Bd Tryz.func61 Tryz.ntmps61 fun σ N hp hpn hk hkn hfree => ?_
      exact W0
    · have hmb : (m == 0) = false := by simp [hm]
      have hmc : (m != 0) = true := by simp [hm]
      rw [show decide (m ≠ 0) = true by simp [hm], Bool.true_and]
      rw [show decide (m < 2 ^ 64) = true by simp; omega, Bool.true_and]
      refine Bd Tryz.func61 Tryz.ntmps61 fun σ N hp hpn hk hkn hfree => ?_
      exact W0
  · skip
    by_cases h2 : kd = 2
    · subst h2
      simp only [Int.reduceEq, if_false, if_true]
      unfold maskB
      by_cases hm : m = 0
      · subst hm
        simp only [ne_eq, not_true_eq_false, decide_false, Bool.false_and]
        refine Bd Tryz.func61 Tryz.ntmps61 fun σ N hp hpn hk hkn hfree => ?_
        exact W0
      · have hmb : (m == 0) = false := by simp [hm]
        have hmc : (m != 0) = true := by simp [hm]
        rw [show decide (m ≠ 0) = true by simp [hm], Bool.true_and]
        by_cases hl : m < 4294967296
        · rw [show decide (m < 2 ^ 32) = true by simp; omega, Bool.true_and]
          refine Bd Tryz.func61 Tryz.ntmps61 fun σ N hp hpn hk hkn hfree => ?_
          exact W0
        · rw [show decide (m < 2 ^ 32) = false by simp; omega, Bool.false_and]
          refine Bd Tryz.func61 Tryz.ntmps61 fun σ N hp hpn hk hkn hfree => ?_
          exact W0
    · skip
      by_cases h3 : kd = 3
      · subst h3
        simp only [Int.reduceEq, if_false, if_true]
        unfold maskB
        by_cases hm : m = 0
        · subst hm
          simp only [ne_eq, not_true_eq_false, decide_false, Bool.false_and]
          refine Bd Tryz.func61 Tryz.ntmps61 fun σ N hp hpn hk hkn hfree => ?_
          exact W0
        · have hmb : (m == 0) = false := by simp [hm]
          have hmc : (m != 0) = true := by simp [hm]
          rw [show decide (m ≠ 0) = true by simp [hm], Bool.true_and]
          by_cases hl : m < 128
          · rw [show decide (m < 2 ^ 7) = true by simp; omega, Bool.true_and]
            refine Bd Tryz.func61 Tryz.ntmps61 fun σ N hp hpn hk hkn hfree => ?_
            exact W0
          · rw [show decide (m < 2 ^ 7) = false by simp; omega, Bool.false_and]
            refine Bd Tryz.func61 Tryz.ntmps61 fun σ N hp hpn hk hkn hfree => ?_
            exact W0
      · skip
        by_cases h4 : kd = 4
        · subst h4
          simp only [Int.reduceEq, if_false, if_true]
          by_cases c1 : 0 ≤ f
          · by_cases c2 : f ≤ t
            · by_cases c3 : t ≤ 67108864
              · simp only [decide_eq_true c1, decide_eq_true c2, decide_eq_true c3, decide_true, Bool.true_and]
                refine Bd Tryz.func61 Tryz.ntmps61 fun σ N hp hpn hk hkn hfree => ?_
                exact W0
              · simp only [decide_eq_true c1, decide_eq_true c2, decide_eq_false c3, Bool.true_and, Bool.false_and]
                refine Bd Tryz.func61 Tryz.ntmps61 fun σ N hp hpn hk hkn hfree => ?_
                exact W0
            · simp only [decide_eq_true c1, decide_eq_false c2, Bool.true_and, Bool.false_and]
              refine Bd Tryz.func61 Tryz.ntmps61 fun σ N hp hpn hk hkn hfree => ?_
              exact W0
          · simp only [decide_eq_false c1, Bool.true_and, Bool.false_and]
            refine Bd Tryz.func61 Tryz.ntmps61 fun σ N hp hpn hk hkn hfree => ?_
            exact W0
        · skip
          by_cases h5 : kd = 5
          · subst h5
            simp only [Int.reduceEq, if_false, if_true]
            by_cases c1 : 0 ≤ f
            · by_cases c2 : f < 1440
              · by_cases c3 : 0 ≤ t
                · by_cases c4 : t < 1440
                  · simp only [decide_eq_true c1, decide_eq_true c2, decide_eq_true c3, decide_eq_true c4, decide_true, Bool.true_and]
                    refine Bd Tryz.func61 Tryz.ntmps61 fun σ N hp hpn hk hkn hfree => ?_
                    exact W0
                  · simp only [decide_eq_true c1, decide_eq_true c2, decide_eq_true c3, decide_eq_false c4, Bool.true_and, Bool.false_and]
                    refine Bd Tryz.func61 Tryz.ntmps61 fun σ N hp hpn hk hkn hfree => ?_
                    exact W0
                · simp only [decide_eq_true c1, decide_eq_true c2, decide_eq_false c3, Bool.true_and, Bool.false_and]
                  refine Bd Tryz.func61 Tryz.ntmps61 fun σ N hp hpn hk hkn hfree => ?_
                  exact W0
              · simp only [decide_eq_true c1, decide_eq_false c2, Bool.true_and, Bool.false_and]
                refine Bd Tryz.func61 Tryz.ntmps61 fun σ N hp hpn hk hkn hfree => ?_
                exact W0
            · simp only [decide_eq_false c1, Bool.true_and, Bool.false_and]
              refine Bd Tryz.func61 Tryz.ntmps61 fun σ N hp hpn hk hkn hfree => ?_
              exact W0
          · skip
            by_cases h6 : kd = 6
            · subst h6
              simp only [Int.reduceEq, if_false, if_true]
              have c1 := Name_spec n nl
              generalize nameB n = b at *
              cases b <;> simp only [Bool.true_and, Bool.false_and]
              all_goals
                refine Bd Tryz.func61 Tryz.ntmps61 fun σ N hp hpn hk hkn hfree => ?_
                have hcs := And.intro c1 True.intro
                clear c1
                exact W0
            · skip
              by_cases h7 : kd = 7
              · subst h7
                simp only [Int.reduceEq, if_false, if_true]
                by_cases c1 : 0 ≤ x
                · by_cases c2 : x ≤ 1000000
                  · simp only [decide_eq_true c1, decide_eq_true c2, decide_true, Bool.true_and]
                    refine Bd Tryz.func61 Tryz.ntmps61 fun σ N hp hpn hk hkn hfree => ?_
                    exact W0
                  · simp only [decide_eq_true c1, decide_eq_false c2, Bool.true_and, Bool.false_and]
                    refine Bd Tryz.func61 Tryz.ntmps61 fun σ N hp hpn hk hkn hfree => ?_
                    exact W0
                · simp only [decide_eq_false c1, Bool.true_and, Bool.false_and]
                  refine Bd Tryz.func61 Tryz.ntmps61 fun σ N hp hpn hk hkn hfree => ?_
                  exact W0
              · skip
                simp only [if_neg h1, if_neg h2, if_neg h3, if_neg h4, if_neg h5, if_neg h6, if_neg h7]
                have g1 : (kd == 1) = false := by simp [h1]
                have g2 : (kd == 2) = false := by simp [h2]
                have g3 : (kd == 3) = false := by simp [h3]
                have g4 : (kd == 4) = false := by simp [h4]
                have g5 : (kd == 5) = false := by simp [h5]
                have g6 : (kd == 6) = false := by simp [h6]
                have g7 : (kd == 7) = false := by simp [h7]
                clear h1 h2 h3 h4 h5 h6 h7
                refine Bd Tryz.func61 Tryz.ntmps61 fun σ N hp hpn hk hkn hfree => ?_
                exact W0
end Go.Proofs.YtemmlldpmgfblaaGreatDoor

/- Caveats: Valid, Firsts, Same. -/
namespace Go.Proofs.YtemmlldpmgfblaaGreatDoor
open Go.Ab
attribute [local irreducible] Go.Ab.tyAV Go.Ab.aw Go.Ab.aops Go.Ab.kReg Go.Ab.aThen Go.Ab.aBlk Go.Ab.acond Go.Ab.aguard Go.Ab.astep Go.Ab.AStepX Go.Ab.aRet

structure Ca where
  third : Bool
  first : Pr
  party : Int
  ticket : List UInt8
  box : List UInt8
deriving DecidableEq
def caAV (c : Ca) : AV := .agg [.lit (.bool c.third), prAV c.first, .lit (.int .i64 c.party), .slice none (c.ticket.map byteAV), .slice none (c.box.map byteAV)]
@[go_sem] theorem caAV_sz (c : Ca) : (caAV c).sz = 10 := rfl
@[go_sem] theorem caAV_isAgg (c : Ca) : (caAV c).isAgg = true := rfl
@[go_sem] theorem caAV_cell (c : Ca) : (caAV c).cell = true := rfl
@[go_sem] theorem caAV_ren (f : Nat → Option Nat) (c : Ca) : (caAV c).ren f = caAV c := by
  simp only [caAV, AV.ren, AV.renl, prAV_ren, renl_bytes, Option.bind_none]
@[go_sem] theorem renl_cas (f : Nat → Option Nat) (l : List Ca) : AV.renl f (l.map caAV) = l.map caAV := by
  rw [AV.renl_map, List.map_map]; exact List.map_congr_left fun t _ => caAV_ren f t
@[go_sem] theorem all_cas1 (l : List Ca) : (l.map caAV).all (fun x => x.sz == 10) = true := by
  rw [List.all_eq_true]; intro x hx; obtain ⟨b, _, rfl⟩ := List.mem_map.1 hx; rfl
@[go_sem] theorem all_cas2 (l : List Ca) : (l.map caAV).all (fun x => x.sz == 10 && x.cell) = true := by
  rw [List.all_eq_true]; intro x hx; obtain ⟨b, _, rfl⟩ := List.mem_map.1 hx; rfl
@[go_sem] theorem renl_prs (f : Nat → Option Nat) (l : List Pr) : AV.renl f (l.map prAV) = l.map prAV := by
  rw [AV.renl_map, List.map_map]; exact List.map_congr_left fun t _ => prAV_ren f t
@[go_sem] theorem all_prs1 (l : List Pr) : (l.map prAV).all (fun x => x.sz == 6) = true := by
  rw [List.all_eq_true]; intro x hx; obtain ⟨b, _, rfl⟩ := List.mem_map.1 hx; rfl
@[go_sem] theorem all_prs2 (l : List Pr) : (l.map prAV).all (fun x => x.sz == 6 && x.cell) = true := by
  rw [List.all_eq_true]; intro x hx; obtain ⟨b, _, rfl⟩ := List.mem_map.1 hx; rfl
@[go_sem] theorem caAV_get0 (c : Ca) : (caAV c).get [0] = some (.lit (.bool c.third)) := rfl
@[go_sem] theorem caAV_get1 (c : Ca) : (caAV c).get [1] = some (prAV c.first) := rfl
@[go_sem] theorem caAV_get2 (c : Ca) : (caAV c).get [2] = some (.lit (.int .i64 c.party)) := rfl
@[go_sem] theorem caAV_get3 (c : Ca) : (caAV c).get [3] = some (.slice none (c.ticket.map byteAV)) := rfl
@[go_sem] theorem caAV_get4 (c : Ca) : (caAV c).get [4] = some (.slice none (c.box.map byteAV)) := rfl
@[go_sem] theorem caAV_offs0 (c : Ca) : (caAV c).offs [0] = 0 := rfl
@[go_sem] theorem caAV_offs1 (c : Ca) : (caAV c).offs [1] = 1 := rfl
@[go_sem] theorem caAV_offs2 (c : Ca) : (caAV c).offs [2] = 7 := rfl
@[go_sem] theorem caAV_offs3 (c : Ca) : (caAV c).offs [3] = 8 := rfl
@[go_sem] theorem caAV_offs4 (c : Ca) : (caAV c).offs [4] = 9 := rfl

def firstsS (l : List Ca) : List Pr := (l.filter fun c => !c.third).map (·.first)
theorem firsts_at {l : List Ca} {u : Nat} {c : Ca} (h : u < l.length) (hc : l[u] = c) : firstsS (l.take (u + 1)) = firstsS (l.take u) ++ (if c.third = true then [] else [c.first]) := by
  have : l.take (u + 1) = l.take u ++ [c] := by rw [List.take_add_one, List.getElem?_eq_getElem h, hc]; rfl
  unfold firstsS
  rw [this, List.filter_append, List.map_append]
  cases hb : c.third <;> simp [hb]
theorem firsts_len (l : List Ca) : (firstsS l).length ≤ l.length := by
  unfold firstsS; rw [List.length_map]; exact List.length_filter_le _ _

theorem firsts_gen (l : List Ca) (R : List Pr) (hR : firstsS l = R) (hl : l.length ≤ 10000) (k : Nat) :
    ACall Tryz.prog 178 [.slice none (l.map caAV)] k [] (.slice none (R.map prAV)) [] := by
  have hf0 : firstsS ([] : List Ca) = [] := rfl
  refine Bd Tryz.func178 Tryz.ntmps178 fun σ N hp hpn hk hkn hfree => ?_
  refine Wk ?_
  refine ALoop.nilrow 3 110 6 (by simp (disch := omega) [go_sem, *, -List.reduceReplicate]) ?_
  refine go_loopB (N) mixed (by kernel_rfl) [3, 5, 8, 9, 10, 11, 12, 13, 14, 15, 16, 17, 18, 19, 20] [] (fun m_ s_ σ_ n_ => ∃ (u : Nat) (q : Nat) (acc : List Pr), m_ = l.length - u ∧ s_ 8 = .lit (.int .i64 u) ∧ s_ 3 = .slice (some q) (acc.map prAV) ∧ σ_ (q) = .row 110 6 acc.length ∧ (u ≤ l.length) ∧ (N ≤ q) ∧ (q < n_) ∧ (acc.length ≤ u) ∧ (firstsS (l.take u) = acc)) ⟨_, 0, _, [], rfl, WF, WF, WF, WC, WC, WC, WC, WC⟩ ?_
  intro m_1 s_1 σ_1 n_1 hs_1 hf_1 hn_1 hI_1
  obtain ⟨u, q, acc, hm_1, h1_8, h1_3, e1_0, hu, hq, hqn, hal, hacc⟩ := hI_1
  have h1_2 := KS hs_1 2
  have h1_6 := KS hs_1 6
  have h1_7 := KS hs_1 7
  have hlow := KL (N := N) (σ := σ) hf_1
  by_cases hul : u = l.length
  · rw [hul, List.take_length, hR] at hacc
    subst hacc hul
    clear hR
    exact WM
  · have hui : u < l.length := by omega
    obtain ⟨c, hc⟩ : ∃ c, l[u] = c := ⟨_, rfl⟩
    have hf := firsts_at hui hc
    rw [hacc] at hf
    clear hacc hR
    cases hb : c.third with
    | true =>
      rw [hb, if_pos rfl, List.append_nil] at hf
      refine Wk ?_
      exact ⟨WS, WG, WN, _, (show l.length - (u + 1) < m_1 by omega), u + 1, q, acc, rfl, WF, WF, WF, WC, WC, WC, WC, WC⟩
    | false =>
      rw [hb, if_neg (by simp)] at hf
      refine Wk ?_
      exact ⟨WS, WG, WN, _, (show l.length - (u + 1) < m_1 by omega), u + 1, q, acc ++ [c.first], rfl, WF, WF, WF, WC, WC, WC, WC, WC⟩
theorem refFirsts_gen (l : List Ca) (R : List Pr) (hR : firstsS l = R) (hl : l.length ≤ 10000) (k : Nat) :
    ACall Tryz.prog 132 [.slice none (l.map caAV)] k [] (.slice none (R.map prAV)) [] := by
  have hf0 : firstsS ([] : List Ca) = [] := rfl
  refine Bd Tryz.func132 Tryz.ntmps132 fun σ N hp hpn hk hkn hfree => ?_
  refine Wk ?_
  refine ALoop.nilrow 3 110 6 (by simp (disch := omega) [go_sem, *, -List.reduceReplicate]) ?_
  refine go_loopB (N) mixed (by kernel_rfl) [3, 4, 5, 6, 7, 8, 9, 10, 11, 12, 13, 14, 15, 16, 17, 18, 19, 20, 21, 22, 23, 24] [] (fun m_ s_ σ_ n_ => ∃ (u : Nat) (q : Nat) (acc : List Pr), m_ = l.length - u ∧ s_ 4 = .lit (.int .i64 u) ∧ s_ 3 = .slice (some q) (acc.map prAV) ∧ σ_ (q) = .row 110 6 acc.length ∧ (u ≤ l.length) ∧ (N ≤ q) ∧ (q < n_) ∧ (acc.length ≤ u) ∧ (firstsS (l.take u) = acc)) ⟨_, 0, _, [], rfl, WF, WF, WF, WC, WC, WC, WC, WC⟩ ?_
  intro m_2 s_2 σ_2 n_2 hs_2 hf_2 hn_2 hI_2
  obtain ⟨u, q, acc, hm_2, h2_4, h2_3, e2_0, hu, hq, hqn, hal, hacc⟩ := hI_2
  have h2_0 := KS hs_2 0
  have h2_2 := KS hs_2 2
  have hlow := KL (N := N) (σ := σ) hf_2
  by_cases hul : u = l.length
  · rw [hul, List.take_length, hR] at hacc
    subst hacc hul
    clear hR
    exact WM
  · have hui : u < l.length := by omega
    obtain ⟨c, hc⟩ : ∃ c, l[u] = c := ⟨_, rfl⟩
    have hf := firsts_at hui hc
    rw [hacc] at hf
    clear hacc hR
    cases hb : c.third with
    | true =>
      rw [hb, if_pos rfl, List.append_nil] at hf
      refine Wk ?_
      exact ⟨WS, WG, WN, _, (show l.length - (u + 1) < m_2 by omega), u + 1, q, acc, rfl, WF, WF, WF, WC, WC, WC, WC, WC⟩
    | false =>
      rw [hb, if_neg (by simp)] at hf
      refine Wk ?_
      exact ⟨WS, WG, WN, _, (show l.length - (u + 1) < m_2 by omega), u + 1, q, acc ++ [c.first], rfl, WF, WF, WF, WC, WC, WC, WC, WC⟩
theorem Equal_spec (a b : List UInt8) (ha : a.length ≤ 1000000) (hb : b.length ≤ 1000000) (k : Nat) :
    ACall Tryz.prog 187 [.slice none (a.map byteAV), .slice none (b.map byteAV)] k [] (.lit (.bool (decide (a = b)))) [] := by
  by_cases h : a = b
  · subst h
    simp only [decide_true]
    refine Bd Tryz.func187 Tryz.ntmps187 fun σ N hp hpn hk hkn hfree => ?_
    exact W0
  · rw [decide_eq_false h]
    have h1 : ((ByteArray.mk a.toArray) == (ByteArray.mk b.toArray)) = false := by rw [barr_eq]; simp [h]
    have h2 : (a == b) = false := by simp [h]
    have h3 : (a.toArray == b.toArray) = false := by simp [h]
    refine Bd Tryz.func187 Tryz.ntmps187 fun σ N hp hpn hk hkn hfree => ?_
    exact W0
end Go.Proofs.YtemmlldpmgfblaaGreatDoor

/- Caveats: Same, Valid. -/
namespace Go.Proofs.YtemmlldpmgfblaaGreatDoor
open Go.Ab
attribute [local irreducible] Go.Ab.tyAV Go.Ab.aw Go.Ab.aops Go.Ab.kReg Go.Ab.aThen Go.Ab.aBlk Go.Ab.acond Go.Ab.aguard Go.Ab.astep Go.Ab.AStepX Go.Ab.aRet

end Go.Proofs.YtemmlldpmgfblaaGreatDoor

/- Caveats: the specified Same; Valid. -/
namespace Go.Proofs.YtemmlldpmgfblaaGreatDoor
open Go.Ab
attribute [local irreducible] Go.Ab.tyAV Go.Ab.aw Go.Ab.aops Go.Ab.kReg Go.Ab.aThen Go.Ab.aBlk Go.Ab.acond Go.Ab.aguard Go.Ab.astep Go.Ab.AStepX Go.Ab.aRet

def sizedB (b : List UInt8) : Bool := decide (1 ≤ b.length) && decide (b.length ≤ 1024)
theorem sized_spec (b : List UInt8) (k : Nat) : ACall Tryz.prog 181 [.slice none (b.map byteAV)] k [] (.lit (.bool (sizedB b))) [] := by
  unfold sizedB
  by_cases h : 1 ≤ b.length
  · have hi : (1 : Int) ≤ (b.length : Int) := by omega
    rw [decide_eq_true h, Bool.true_and]
    by_cases h2 : b.length ≤ 1024
    · have hi2 : (b.length : Int) ≤ 1024 := by omega
      rw [decide_eq_true h2]
      refine Bd Tryz.func181 Tryz.ntmps181 fun σ N hp hpn hk hkn hfree => ?_
      exact W0
    · have hi2 : ¬ (b.length : Int) ≤ 1024 := by omega
      rw [decide_eq_false h2]
      refine Bd Tryz.func181 Tryz.ntmps181 fun σ N hp hpn hk hkn hfree => ?_
      exact W0
  · have hi : ¬ (1 : Int) ≤ (b.length : Int) := by omega
    rw [decide_eq_false h, Bool.false_and]
    refine Bd Tryz.func181 Tryz.ntmps181 fun σ N hp hpn hk hkn hfree => ?_
    exact W0

def zeroPr : Pr := ⟨0, 0, 0, 0, [], 0⟩
def cavB (c : Ca) : Bool :=
  if c.third = false then predB c.first && (decide (c.party = 0) && (decide (c.ticket.length = 0) && decide (c.box.length = 0)))
  else decide (c.first = zeroPr) && (decide (0 ≤ c.party) && (decide (c.party ≤ 7) && (sizedB c.ticket && sizedB c.box)))
@[go_sem high] theorem ev_pr_eqz (a : Pr) :
    evBin Tryz.prog .eql 110 (prAV a) (.agg [.lit (.int .i64 0), .lit (.int .u64 0), .lit (.int .i64 0), .lit (.int .i64 0), .lit (.string ByteArray.empty), .lit (.int .i64 0)]) =
      some ⟨[], .lit (.bool (decide (a = zeroPr))), []⟩ := ev_pr_eq a zeroPr
set_option maxHeartbeats 4000000 in
theorem cavValid_spec (c : Ca) (hp0 : PrOk c.first) (d k : Nat) :
    ACall Tryz.prog 123 [caAV c] k [(d, bitsG)] (.lit (.bool (cavB c))) [] := by
  have c1 := predValid_spec c.first hp0 d
  have c2 := sized_spec c.ticket
  have c3 := sized_spec c.box
  unfold cavB
  cases ht : c.third with
  | false =>
    simp only [if_true]
    generalize predB c.first = b at *
    cases b <;> simp only [Bool.true_and, Bool.false_and]
    · refine Bd Tryz.func123 Tryz.ntmps123 fun σ N hp hpn hk hkn hfree => ?_
      obtain ⟨hd, hdn⟩ := HD0 hp hpn; clear hp hpn
      have hcs := And.intro c1 True.intro
      clear c1 c2 c3
      exact W0
    · by_cases g1 : c.party = 0
      · have kg1 : (c.party == 0) = true := by simp [g1]
        by_cases g2 : c.ticket.length = 0
        · have kg2 : ((c.ticket.length : Int) == 0) = true := by simp [g2]
          by_cases g3 : c.box.length = 0
          · have kg3 : ((c.box.length : Int) == 0) = true := by simp [g3]
            simp only [decide_eq_true g1, decide_eq_true g2, decide_eq_true g3, Bool.true_and]
            refine Bd Tryz.func123 Tryz.ntmps123 fun σ N hp hpn hk hkn hfree => ?_
            obtain ⟨hd, hdn⟩ := HD0 hp hpn; clear hp hpn
            have hcs := And.intro c1 True.intro
            clear c1 c2 c3
            exact W0
          · have kg3 : ((c.box.length : Int) == 0) = false := by rw [beq_eq_false_iff_ne]; omega
            simp only [decide_eq_true g1, decide_eq_true g2, decide_eq_false g3, Bool.true_and, Bool.false_and]
            refine Bd Tryz.func123 Tryz.ntmps123 fun σ N hp hpn hk hkn hfree => ?_
            obtain ⟨hd, hdn⟩ := HD0 hp hpn; clear hp hpn
            have hcs := And.intro c1 True.intro
            clear c1 c2 c3
            exact W0
        · have kg2 : ((c.ticket.length : Int) == 0) = false := by rw [beq_eq_false_iff_ne]; omega
          simp only [decide_eq_true g1, decide_eq_false g2, Bool.true_and, Bool.false_and]
          refine Bd Tryz.func123 Tryz.ntmps123 fun σ N hp hpn hk hkn hfree => ?_
          obtain ⟨hd, hdn⟩ := HD0 hp hpn; clear hp hpn
          have hcs := And.intro c1 True.intro
          clear c1 c2 c3
          exact W0
      · have kg1 : (c.party == 0) = false := by rw [beq_eq_false_iff_ne]; omega
        simp only [decide_eq_false g1, Bool.true_and, Bool.false_and]
        refine Bd Tryz.func123 Tryz.ntmps123 fun σ N hp hpn hk hkn hfree => ?_
        obtain ⟨hd, hdn⟩ := HD0 hp hpn; clear hp hpn
        have hcs := And.intro c1 True.intro
        clear c1 c2 c3
        exact W0
  | true =>
    simp only [Bool.true_eq_false, if_false]
    by_cases g1 : c.first = zeroPr
    · by_cases g2 : 0 ≤ c.party
      · by_cases g3 : c.party ≤ 7
        · simp only [decide_eq_true g1, decide_eq_true g2, decide_eq_true g3, Bool.true_and]
          generalize sizedB c.ticket = s1 at *
          generalize sizedB c.box = s2 at *
          cases s1 <;> simp only [Bool.true_and, Bool.false_and]
          · refine Bd Tryz.func123 Tryz.ntmps123 fun σ N hp hpn hk hkn hfree => ?_
            obtain ⟨hd, hdn⟩ := HD0 hp hpn; clear hp hpn
            have hcs := And.intro c2 True.intro
            clear c1 c2 c3
            exact W0
          · refine Bd Tryz.func123 Tryz.ntmps123 fun σ N hp hpn hk hkn hfree => ?_
            obtain ⟨hd, hdn⟩ := HD0 hp hpn; clear hp hpn
            have hcs := And.intro c2 (And.intro c3 True.intro)
            clear c1 c2 c3
            exact W0
        · simp only [decide_eq_true g1, decide_eq_true g2, decide_eq_false g3, Bool.true_and, Bool.false_and]
          refine Bd Tryz.func123 Tryz.ntmps123 fun σ N hp hpn hk hkn hfree => ?_
          obtain ⟨hd, hdn⟩ := HD0 hp hpn; clear hp hpn
          clear c1 c2 c3
          exact W0
      · simp only [decide_eq_true g1, decide_eq_false g2, Bool.true_and, Bool.false_and]
        refine Bd Tryz.func123 Tryz.ntmps123 fun σ N hp hpn hk hkn hfree => ?_
        obtain ⟨hd, hdn⟩ := HD0 hp hpn; clear hp hpn
        clear c1 c2 c3
        exact W0
    · simp only [decide_eq_false g1, Bool.true_and, Bool.false_and]
      refine Bd Tryz.func123 Tryz.ntmps123 fun σ N hp hpn hk hkn hfree => ?_
      obtain ⟨hd, hdn⟩ := HD0 hp hpn; clear hp hpn
      clear c1 c2 c3
      exact W0
set_option maxHeartbeats 4000000 in
theorem refCav_spec (c : Ca) (hp0 : PrOk c.first) (k : Nat) :
    ACall Tryz.prog 133 [caAV c] k [] (.lit (.bool (cavB c))) [] := by
  have c1 := refPred_spec c.first hp0
  unfold cavB
  cases ht : c.third with
  | false =>
    simp only [if_true]
    generalize predB c.first = b at *
    cases b <;> simp only [Bool.true_and, Bool.false_and]
    · refine Bd Tryz.func133 Tryz.ntmps133 fun σ N hp hpn hk hkn hfree => ?_
      have hcs := And.intro c1 True.intro
      clear c1
      exact W0
    · by_cases g1 : c.party = 0
      · have kg1 : (c.party == 0) = true := by simp [g1]
        by_cases g2 : c.ticket.length = 0
        · have kg2 : ((c.ticket.length : Int) == 0) = true := by simp [g2]
          by_cases g3 : c.box.length = 0
          · have kg3 : ((c.box.length : Int) == 0) = true := by simp [g3]
            simp only [decide_eq_true g1, decide_eq_true g2, decide_eq_true g3, Bool.true_and]
            refine Bd Tryz.func133 Tryz.ntmps133 fun σ N hp hpn hk hkn hfree => ?_
            have hcs := And.intro c1 True.intro
            clear c1
            exact W0
          · have kg3 : ((c.box.length : Int) == 0) = false := by rw [beq_eq_false_iff_ne]; omega
            simp only [decide_eq_true g1, decide_eq_true g2, decide_eq_false g3, Bool.true_and, Bool.false_and]
            refine Bd Tryz.func133 Tryz.ntmps133 fun σ N hp hpn hk hkn hfree => ?_
            have hcs := And.intro c1 True.intro
            clear c1
            exact W0
        · have kg2 : ((c.ticket.length : Int) == 0) = false := by rw [beq_eq_false_iff_ne]; omega
          simp only [decide_eq_true g1, decide_eq_false g2, Bool.true_and, Bool.false_and]
          refine Bd Tryz.func133 Tryz.ntmps133 fun σ N hp hpn hk hkn hfree => ?_
          have hcs := And.intro c1 True.intro
          clear c1
          exact W0
      · have kg1 : (c.party == 0) = false := by rw [beq_eq_false_iff_ne]; omega
        simp only [decide_eq_false g1, Bool.true_and, Bool.false_and]
        refine Bd Tryz.func133 Tryz.ntmps133 fun σ N hp hpn hk hkn hfree => ?_
        have hcs := And.intro c1 True.intro
        clear c1
        exact W0
  | true =>
    simp only [Bool.true_eq_false, if_false]
    unfold sizedB
    by_cases g1 : c.first = zeroPr
    · by_cases g2 : 0 ≤ c.party
      · by_cases g3 : c.party ≤ 7
        · by_cases g4 : 1 ≤ c.ticket.length
          · have kg4 : 1 ≤ (c.ticket.length : Int) := by omega
            by_cases g5 : c.ticket.length ≤ 1024
            · have kg5 : (c.ticket.length : Int) ≤ 1024 := by omega
              by_cases g6 : 1 ≤ c.box.length
              · have kg6 : 1 ≤ (c.box.length : Int) := by omega
                by_cases g7 : c.box.length ≤ 1024
                · have kg7 : (c.box.length : Int) ≤ 1024 := by omega
                  simp only [decide_eq_true g1, decide_eq_true g2, decide_eq_true g3, decide_eq_true g4, decide_eq_true g5, decide_eq_true g6, decide_eq_true g7, Bool.true_and]
                  refine Bd Tryz.func133 Tryz.ntmps133 fun σ N hp hpn hk hkn hfree => ?_
                  clear c1
                  exact W0
                · have kg7 : ¬ (c.box.length : Int) ≤ 1024 := by omega
                  simp only [decide_eq_true g1, decide_eq_true g2, decide_eq_true g3, decide_eq_true g4, decide_eq_true g5, decide_eq_true g6, decide_eq_false g7, Bool.true_and, Bool.false_and]
                  refine Bd Tryz.func133 Tryz.ntmps133 fun σ N hp hpn hk hkn hfree => ?_
                  clear c1
                  exact W0
              · have kg6 : ¬ 1 ≤ (c.box.length : Int) := by omega
                simp only [decide_eq_true g1, decide_eq_true g2, decide_eq_true g3, decide_eq_true g4, decide_eq_true g5, decide_eq_false g6, Bool.true_and, Bool.false_and]
                refine Bd Tryz.func133 Tryz.ntmps133 fun σ N hp hpn hk hkn hfree => ?_
                clear c1
                exact W0
            · have kg5 : ¬ (c.ticket.length : Int) ≤ 1024 := by omega
              simp only [decide_eq_true g1, decide_eq_true g2, decide_eq_true g3, decide_eq_true g4, decide_eq_false g5, Bool.true_and, Bool.false_and]
              refine Bd Tryz.func133 Tryz.ntmps133 fun σ N hp hpn hk hkn hfree => ?_
              clear c1
              exact W0
          · have kg4 : ¬ 1 ≤ (c.ticket.length : Int) := by omega
            simp only [decide_eq_true g1, decide_eq_true g2, decide_eq_true g3, decide_eq_false g4, Bool.true_and, Bool.false_and]
            refine Bd Tryz.func133 Tryz.ntmps133 fun σ N hp hpn hk hkn hfree => ?_
            clear c1
            exact W0
        · simp only [decide_eq_true g1, decide_eq_true g2, decide_eq_false g3, Bool.true_and, Bool.false_and]
          refine Bd Tryz.func133 Tryz.ntmps133 fun σ N hp hpn hk hkn hfree => ?_
          clear c1
          exact W0
      · simp only [decide_eq_true g1, decide_eq_false g2, Bool.true_and, Bool.false_and]
        refine Bd Tryz.func133 Tryz.ntmps133 fun σ N hp hpn hk hkn hfree => ?_
        clear c1
        exact W0
    · simp only [decide_eq_false g1, Bool.true_and, Bool.false_and]
      refine Bd Tryz.func133 Tryz.ntmps133 fun σ N hp hpn hk hkn hfree => ?_
      clear c1
      exact W0
end Go.Proofs.YtemmlldpmgfblaaGreatDoor

/- Shared: the number at the beginning of bytes: varint.Read, the specified reading, plain laws. -/
namespace Go.Proofs.YtemmlldpmgfblaaGreatDoor
open Go.Ab
attribute [local irreducible] Go.Ab.tyAV Go.Ab.aw Go.Ab.aops Go.Ab.kReg Go.Ab.aThen Go.Ab.aBlk Go.Ab.acond Go.Ab.aguard Go.Ab.astep Go.Ab.AStepX Go.Ab.aRet

def leadF : Nat → List UInt8 → Nat
  | 0, _ => 0
  | _ + 1, [] => 0
  | f + 1, x :: r => if 128 ≤ x.toNat then leadF f r + 1 else 0
def lead (b : List UInt8) : Nat := leadF 7 b
/-- The value of the first groups. -/
def vl (b : List UInt8) : Nat → Nat
  | 0 => 0
  | j + 1 => vl b j + (b.getD j 0).toNat % 128 * 128 ^ j
def rdS (b : List UInt8) : Nat × Nat × Nat :=
  if lead b = 7 then (0, 0, 5) else if lead b = b.length then (0, 0, 3) else if 0 < lead b ∧ (b.getD (lead b) 0).toNat = 0 then (0, 0, 5) else
    if 281474976710656 < vl b (lead b + 1) then (0, 0, 1) else (vl b (lead b + 1), lead b + 1, 0)
def rdAV (r : Nat × Nat × Nat) : AV := .tup [.lit (.int .i64 r.1), .lit (.int .i64 r.2.1), .lit (.int .i64 r.2.2)]

theorem leadF_le : ∀ (f : Nat) (b : List UInt8), leadF f b ≤ f ∧ leadF f b ≤ b.length
  | 0, b => by simp [leadF]
  | f + 1, [] => by simp [leadF]
  | f + 1, x :: r => by
    have := leadF_le f r
    simp only [leadF]
    split <;> simp <;> omega
theorem leadF_lt : ∀ (f : Nat) (b : List UInt8) (i : Nat), i < leadF f b → ∃ x, b[i]? = some x ∧ 128 ≤ x.toNat
  | 0, b, i, h => by simp [leadF] at h
  | f + 1, [], i, h => by simp [leadF] at h
  | f + 1, x :: r, i, h => by
    simp only [leadF] at h
    split at h
    · cases i with
      | zero => exact ⟨x, rfl, by assumption⟩
      | succ i => exact leadF_lt f r i (by omega)
    · omega
theorem leadF_at : ∀ (f : Nat) (b : List UInt8), leadF f b < f → leadF f b < b.length → ∃ x, b[leadF f b]? = some x ∧ x.toNat < 128
  | 0, b, h, _ => by omega
  | f + 1, [], _, h => by simp at h
  | f + 1, x :: r, h, h' => by
    simp only [leadF] at h h' ⊢
    split at h
    · rename_i hx
      rw [if_pos hx] at h' ⊢
      obtain ⟨y, h1, h2⟩ := leadF_at f r (by omega) (by simpa using h')
      exact ⟨y, by simpa using h1, h2⟩
    · rename_i hx
      rw [if_neg hx]
      exact ⟨x, rfl, by omega⟩
theorem vl_lt (b : List UInt8) : ∀ j, vl b j < 128 ^ j
  | 0 => by simp [vl]
  | j + 1 => by
    have h := vl_lt b j
    have h2 : (b.getD j 0).toNat % 128 ≤ 127 := by omega
    have h3 := Nat.mul_le_mul_right (128 ^ j) h2
    simp only [vl, Nat.pow_succ]
    omega
theorem or_join (i : Nat) (a y : Nat) (ha : a < 2 ^ i) (hy : y % 2 ^ i = 0) (h1 : a < 9223372036854775808) (h2 : y < 9223372036854775808) : bits .or .i64 (a : Int) (y : Int) = ((a + y : Nat) : Int) := by
  have h := bits_join .i64 63 (by decide) (fun n a b => wrap_i64 (by omega) (by omega)) i (y : Int) (a : Int) (by omega) (by exact_mod_cast hy) (by omega) (by omega) (by exact_mod_cast ha) (by omega)
  have c : bits .or .i64 (a : Int) (y : Int) = bits .or .i64 (y : Int) (a : Int) := by simp [bits, BitVec.or_comm]
  rw [c, h]; omega

theorem rd_pow (x : UInt8) (u : Nat) (hu : u < 7) : x.toNat % 128 * 128 ^ u < 4611686018427387904 ∧ ((x.toNat % 128 * 128 ^ u : Nat) : Int) = (x.toNat : Int) % 128 * 2 ^ (7 * u) := by
  have hp : (128 : Nat) ^ u = 2 ^ (7 * u) := by rw [Nat.pow_mul]
  have hpl : 128 ^ u ≤ 128 ^ 6 := Nat.pow_le_pow_right (by omega) (by omega)
  have hsm : x.toNat % 128 * 128 ^ u ≤ 127 * 128 ^ 6 := Nat.mul_le_mul (by omega) hpl
  refine ⟨by omega, ?_⟩
  rw [hp, Int.natCast_mul, Int.natCast_pow, Int.natCast_emod]
  rfl
theorem rd_sh (x : UInt8) (u : Nat) (hu : u < 7) : IntKind.i64.wrap ((x.toNat : Int) % 128 * 2 ^ (7 * u)) = (x.toNat : Int) % 128 * 2 ^ (7 * u) := by
  obtain ⟨h1, h2⟩ := rd_pow x u hu
  rw [← h2, wrap_i64 (by omega) (by omega)]
theorem rd_or (b : List UInt8) (x : UInt8) (u : Nat) (hu : u < 7) (hx : b.getD u 0 = x) : bits .or .i64 (vl b u : Int) ((x.toNat : Int) % 128 * 2 ^ (7 * u)) = ((vl b (u + 1) : Nat) : Int) ∧ vl b (u + 1) < 9223372036854775808 := by
  obtain ⟨h1, h2⟩ := rd_pow x u hu
  have hv := vl_lt b u
  have hpl : 128 ^ u ≤ 128 ^ 6 := Nat.pow_le_pow_right (by omega) (by omega)
  have hvs : vl b (u + 1) = vl b u + x.toNat % 128 * 128 ^ u := by simp only [vl, hx]
  have hp : (128 : Nat) ^ u = 2 ^ (7 * u) := by rw [Nat.pow_mul]
  refine ⟨?_, by omega⟩
  rw [← h2, hvs]
  exact or_join (7 * u) _ _ (by rw [← hp]; exact hv) (by rw [hp]; exact Nat.mul_mod_left _ _) (by omega) (by omega)

set_option maxRecDepth 100000 in
theorem Read_spec (b : List UInt8) (hb : b.length ≤ 100000000) (k : Nat) : ACall Tryz.prog 205 [.slice none (b.map byteAV)] k [] (rdAV (rdS b)) [] := by
  refine Bd Tryz.func205 Tryz.ntmps205 fun σ N hp hpn hk hkn hfree => ?_
  refine Wg ?_
  refine go_loop (aloop mixed (by kernel_rfl) (fun c => ∃ (u : Nat), c.s 0 = .slice none (b.map byteAV) ∧ c.s 5 = .lit (.int .i64 (vl b u)) ∧ c.s 6 = .lit (.int .i64 u) ∧ (∀ id, id < N → c.σ id = σ id) ∧ N ≤ c.n ∧ u ≤ lead b)
    (fun c => match c.s 6 with | .lit (.int _ m) => 7 - m.toNat | _ => 0) ⟨0, by simp (disch := omega) [go_sem, *, -List.reduceReplicate], by simp (disch := omega) [go_sem, *, -List.reduceReplicate]; rfl, by simp (disch := omega) [go_sem, *, -List.reduceReplicate], (fun id hid => by simp (disch := omega) only [upd_ne, wr_cons, wr_nil]; try exact hlow id hid), by simp only; omega, by omega⟩ ?_)
  rintro ⟨s, σ', n'⟩ ⟨u, h0, h5, h6, hlow, hn', hu⟩
  simp only at h0 h5 h6 hlow hn'
  have hle := leadF_le 7 b
  by_cases h7 : u = 7
  · subst h7
    have hr : rdS b = (0, 0, 5) := by simp [rdS, show lead b = 7 from by unfold lead at hu ⊢; omega]
    rw [hr]
    refine Wg ?_
    refine go_condT (by simp (disch := omega) [go_sem, *, -List.reduceReplicate]; try first | rfl | omega) ?_
    refine Wg ?_
    exact W0
  · by_cases hlen : u = b.length
    · have hr : rdS b = (0, 0, 3) := by
        have : lead b = b.length := by unfold lead at hu ⊢; omega
        simp [rdS, this, ← hlen, h7]
      rw [hr]
      refine Wg ?_
      refine go_condF (by simp (disch := omega) [go_sem, *, -List.reduceReplicate]; try first | rfl | omega) ?_
      refine Wg ?_
      refine go_condT (by simp (disch := omega) [go_sem, *, -List.reduceReplicate]; try first | rfl | omega) ?_
      refine Wg ?_
      exact W0
    · have hul : u < b.length := by unfold lead at hu; omega
      have hu7 : u < 7 := by unfold lead at hu; omega
      obtain ⟨x, hx⟩ : ∃ x, b[u] = x := ⟨_, rfl⟩
      have hxx : byteAV x = .lit (.int .u8 x.toNat) := rfl
      have hxl := x.toNat_lt
      have ha : bits .and .u8 (x.toNat : Int) 127 = (x.toNat : Int) % 128 := u8_and127 _ (by omega) (by omega)
      have hgd : b.getD u 0 = x := by rw [List.getD, List.getElem?_eq_getElem hul, hx]; rfl
      have hto : (7 * (u : Int)).toNat = 7 * u := by omega
      have hsh := rd_sh x u hu7
      obtain ⟨hor, hv1⟩ := rd_or b x u hu7 hgd
      by_cases hbig : x.toNat < 128
      · have hlead : lead b = u := by
          rcases Nat.lt_or_ge u (lead b) with h | h
          · obtain ⟨y, h1, h2⟩ := leadF_lt 7 b u h
            rw [List.getElem?_eq_getElem hul, hx] at h1
            cases h1; omega
          · omega
        refine Wg ?_
        refine go_condF (by simp (disch := omega) [go_sem, *, -List.reduceReplicate]; try first | rfl | omega) ?_
        refine Wg ?_
        refine go_condF (by simp (disch := omega) [go_sem, *, -List.reduceReplicate]; try first | rfl | omega) ?_
        refine Wg ?_
        refine go_cut [0, 5, 6, 33] fun s hcut => ?_
        have k0 := hcut 0 (by simp)
        have k5 := hcut 5 (by simp)
        have k6 := hcut 6 (by simp)
        have k33 := hcut 33 (by simp)
        simp (disch := omega) [go_sem, *] at k0 k5 k6 k33
        clear hcut h0 h5 h6
        refine go_condT (by simp (disch := omega) [go_sem, *, -List.reduceReplicate]; try first | rfl | omega) ?_
        have hlr : ∀ r, (if 0 < u ∧ x.toNat = 0 then (0, 0, 5) else if 281474976710656 < vl b (u + 1) then (0, 0, 1) else (vl b (u + 1), u + 1, 0)) = r → rdS b = r := by
          intro r hr
          unfold rdS
          rw [hlead, hgd, if_neg h7, if_neg hlen]
          exact hr
        clear hsh hor ha hle hgd hto hlead hu k33
        by_cases hz : 0 < u ∧ x.toNat = 0
        · rw [hlr _ (if_pos hz)]
          obtain ⟨hz1, hz2⟩ := hz
          refine Wg ?_
          refine go_condT (by simp (disch := omega) [go_sem, *, -List.reduceReplicate]; try first | rfl | omega) ?_
          refine Wg ?_
          exact W0
        · by_cases hu0 : u = 0
          · have hu1 : ¬ (1 < (u : Int) + 1) := by omega
            have hu2 : ¬ (0 < u) := by omega
            clear hu0
            refine Wg ?_
            refine go_condF (by simp (disch := omega) [go_sem, *, -List.reduceReplicate]; try first | rfl | omega) ?_
            refine Wg ?_
            by_cases hm : 281474976710656 < vl b (u + 1)
            · rw [hlr _ ((if_neg hz).trans (if_pos hm))]
              refine go_condT (by simp (disch := omega) [go_sem, *, -List.reduceReplicate]; try first | rfl | omega) ?_
              refine Wg ?_
              exact W0
            · rw [hlr _ ((if_neg hz).trans (if_neg hm))]
              refine go_condF (by simp (disch := omega) [go_sem, *, -List.reduceReplicate]; try first | rfl | omega) ?_
              refine Wg ?_
              exact W0
          · have hu2 : 0 < u := by omega
            have hz0 : ¬ x.toNat = 0 := fun h => hz ⟨hu2, h⟩
            refine Wg ?_
            refine go_condF (by simp (disch := omega) [go_sem, *, -List.reduceReplicate]; try first | rfl | omega) ?_
            refine Wg ?_
            by_cases hm : 281474976710656 < vl b (u + 1)
            · rw [hlr _ ((if_neg hz).trans (if_pos hm))]
              refine go_condT (by simp (disch := omega) [go_sem, *, -List.reduceReplicate]; try first | rfl | omega) ?_
              refine Wg ?_
              exact W0
            · rw [hlr _ ((if_neg hz).trans (if_neg hm))]
              refine go_condF (by simp (disch := omega) [go_sem, *, -List.reduceReplicate]; try first | rfl | omega) ?_
              refine Wg ?_
              exact W0
      · have hlt : u + 1 ≤ lead b := by
          rcases Nat.lt_or_ge u (lead b) with h | h
          · omega
          · have e : leadF 7 b = u := by unfold lead at hu h; omega
            obtain ⟨y, h1, h2⟩ := leadF_at 7 b (by omega) (by omega)
            rw [e, List.getElem?_eq_getElem hul, hx] at h1
            cases h1; omega
        refine Wg ?_
        refine go_condF (by simp (disch := omega) [go_sem, *, -List.reduceReplicate]; try first | rfl | omega) ?_
        refine Wg ?_
        refine go_condF (by simp (disch := omega) [go_sem, *, -List.reduceReplicate]; try first | rfl | omega) ?_
        refine Wg ?_
        refine go_condF (by simp (disch := omega) [go_sem, *, -List.reduceReplicate]; try first | rfl | omega) ?_
        refine Wg ?_
        refine ⟨⟨u + 1, by simp (disch := omega) [go_sem, *, -List.reduceReplicate], by simp (disch := omega) [go_sem, *, -List.reduceReplicate], by simp (disch := omega) [go_sem, *, -List.reduceReplicate], (fun id hid => by simp (disch := omega) only [upd_ne, wr_cons, wr_nil]; try exact hlow id hid), by simp only; omega, hlt⟩, ?_⟩
        simp (disch := omega) [go_sem, *, -List.reduceReplicate]
        omega

theorem leb_pos (n : Nat) : 1 ≤ (leb n).length := by
  by_cases h : n < 128
  · rw [leb_small h]; simp
  · rw [leb_big h]; simp

theorem leb_len1 (n : Nat) : ∀ k, n < 128 ^ (k + 1) → (leb n).length ≤ k + 1 := by
  induction n using Nat.strongRecOn with
  | _ n ih =>
    intro k hk
    by_cases h : n < 128
    · rw [leb_small h]; simp
    · rw [leb_big h]
      cases k with
      | zero => simp at hk; omega
      | succ k =>
        have := ih (n / 128) (by omega) k (by rw [Nat.pow_succ] at hk; omega)
        simp; omega
theorem u8_toNat {n : Nat} (h : n < 256) : (u8 n).toNat = n := by
  unfold u8; rw [UInt8.toNat_ofNat', Nat.mod_eq_of_lt h]
theorem vl_cons (x : UInt8) (r : List UInt8) : ∀ j, vl (x :: r) (j + 1) = x.toNat % 128 + 128 * vl r j
  | 0 => by simp [vl]
  | j + 1 => by
    rw [vl, vl_cons x r j, vl]
    simp only [List.getD_cons_succ, Nat.pow_succ]
    rw [Nat.mul_add, Nat.add_assoc]
    congr 2
    rw [← Nat.mul_assoc, Nat.mul_comm _ 128]
theorem leadF_leb (n : Nat) : ∀ (f : Nat) (t : List UInt8), (leb n).length ≤ f → leadF f (leb n ++ t) = (leb n).length - 1 := by
  induction n using Nat.strongRecOn with
  | _ n ih =>
    intro f t hf
    by_cases h : n < 128
    · rw [leb_small h] at hf ⊢
      cases f with
      | zero => simp at hf
      | succ f => simp [leadF, u8_toNat (show n < 256 by omega)]; omega
    · rw [leb_big h] at hf ⊢
      cases f with
      | zero => simp at hf
      | succ f =>
        have hp := leb_pos (n / 128)
        simp only [List.cons_append, leadF, u8_toNat (show n % 128 + 128 < 256 by omega)]
        rw [if_pos (by omega), ih (n / 128) (by omega) f t (by simp at hf; omega)]
        simp; omega
theorem vl_leb (n : Nat) : ∀ t : List UInt8, vl (leb n ++ t) (leb n).length = n := by
  induction n using Nat.strongRecOn with
  | _ n ih =>
    intro t
    by_cases h : n < 128
    · rw [leb_small h]
      simp only [List.cons_append, List.nil_append, List.length_cons, List.length_nil, vl_cons, u8_toNat (show n < 256 by omega), vl]
      omega
    · rw [leb_big h]
      simp only [List.cons_append, List.length_cons, vl_cons, u8_toNat (show n % 128 + 128 < 256 by omega)]
      rw [ih (n / 128) (by omega) t]
      omega
theorem last_leb (n : Nat) : ∀ t : List UInt8, 0 < (leb n).length - 1 → ((leb n ++ t).getD ((leb n).length - 1) 0).toNat ≠ 0 := by
  induction n using Nat.strongRecOn with
  | _ n ih =>
    intro t hl
    by_cases h : n < 128
    · rw [leb_small h] at hl; simp at hl
    · rw [leb_big h]
      have hp := leb_pos (n / 128)
      have e : (u8 (n % 128 + 128) :: leb (n / 128)).length - 1 = ((leb (n / 128)).length - 1) + 1 := by simp; omega
      rw [e, List.cons_append, List.getD_cons_succ]
      by_cases h2 : n / 128 < 128
      · rw [leb_small h2]
        simp [u8_toNat (show n / 128 < 256 by omega)]
        omega
      · refine ih (n / 128) (by omega) t ?_
        rw [leb_big h2]
        have := leb_pos (n / 128 / 128)
        simp; omega

theorem rdS_leb (n : Nat) (hn : n ≤ 281474976710656) (t : List UInt8) : rdS (leb n ++ t) = (n, (leb n).length, 0) := by
  have hl := leb_len1 n 6 (by omega)
  have hp := leb_pos n
  have h1 : lead (leb n ++ t) = (leb n).length - 1 := leadF_leb n 7 t (by omega)
  have h2 : vl (leb n ++ t) ((leb n).length - 1 + 1) = n := by rw [Nat.sub_add_cancel hp]; exact vl_leb n t
  unfold rdS
  rw [h1, h2, if_neg (by omega), if_neg (by rw [List.length_append]; omega), if_neg (fun h => last_leb n t h.1 h.2), if_neg (by omega), Nat.sub_add_cancel hp]

theorem leb_vl : ∀ (l : Nat) (b : List UInt8), l < b.length → (∀ i, i < l → ∃ x, b[i]? = some x ∧ 128 ≤ x.toNat) → (b.getD l 0).toNat < 128 → (l = 0 ∨ (b.getD l 0).toNat ≠ 0) → leb (vl b (l + 1)) = b.take (l + 1)
  | 0, [], h, _, _, _ => by simp at h
  | 0, x :: r, _, _, h, _ => by
    simp only [List.getD_cons_zero] at h
    have : vl (x :: r) (0 + 1) = x.toNat := by rw [vl_cons]; simp [vl]; omega
    rw [this, leb_small h]
    simp [u8]
  | l + 1, [], h, _, _, _ => by simp at h
  | l + 1, x :: r, hl, hb, h, hz => by
    simp only [List.getD_cons_succ] at h hz
    have hz' : (r.getD l 0).toNat ≠ 0 := hz.resolve_left (by omega)
    obtain ⟨y, hy, hy1⟩ := hb 0 (by omega)
    simp at hy; subst hy
    have ih := leb_vl l r (by simpa using hl) (fun i hi => by simpa using hb (i + 1) (by omega)) h (.inr hz')
    have hpos : 1 ≤ vl r (l + 1) := by
      have : 1 ≤ (r.getD l 0).toNat % 128 * 128 ^ l := Nat.mul_pos (by omega) (Nat.pow_pos (by omega))
      simp only [vl]; omega
    have hx := x.toNat_lt
    rw [vl_cons, leb_big (by omega), show (x.toNat % 128 + 128 * vl r (l + 1)) % 128 + 128 = x.toNat by omega, show (x.toNat % 128 + 128 * vl r (l + 1)) / 128 = vl r (l + 1) by omega, ih]
    simp [u8]

theorem rdS_ok (b : List UInt8) {n u : Nat} (h : rdS b = (n, u, 0)) : n ≤ 281474976710656 ∧ u ≤ b.length ∧ leb n = b.take u := by
  have hle := leadF_le 7 b
  unfold rdS at h
  split at h
  · simp at h
  · rename_i h7
    split at h
    · simp at h
    · rename_i hlen
      split at h
      · simp at h
      · rename_i hz
        split at h
        · simp at h
        · rename_i hm
          simp only [Prod.mk.injEq, and_true] at h
          obtain ⟨rfl, rfl⟩ := h
          unfold lead at *
          obtain ⟨x, hx1, hx2⟩ := leadF_at 7 b (by omega) (by omega)
          have hg : b.getD (leadF 7 b) 0 = x := by simp [List.getD, hx1]
          refine ⟨by omega, by omega, leb_vl _ b (by omega) (fun i hi => leadF_lt 7 b i hi) (by rw [hg]; exact hx2) ?_⟩
          by_cases h0 : leadF 7 b = 0
          · exact .inl h0
          · exact .inr fun e => hz ⟨by omega, e⟩
theorem rdS_bad (b : List UInt8) : (rdS b).2.2 = 0 ∨ ∃ e, rdS b = (0, 0, e) ∧ e ≠ 0 := by
  unfold rdS
  split
  · exact .inr ⟨5, rfl, by omega⟩
  · split
    · exact .inr ⟨3, rfl, by omega⟩
    · split
      · exact .inr ⟨5, rfl, by omega⟩
      · split
        · exact .inr ⟨1, rfl, by omega⟩
        · exact .inl rfl

/-- A slice, cut where it is longer than c. -/

theorem vl_back (b : List UInt8) (i : Nat) (n : Nat) : vl b (i + 1) + n * 128 ^ (i + 1) = vl b i + (128 * n + (b.getD i 0).toNat % 128) * 128 ^ i := by
  simp only [vl, Nat.pow_succ, Nat.add_mul]
  have : n * (128 ^ i * 128) = 128 * n * 128 ^ i := by rw [Nat.mul_comm (128 ^ i), ← Nat.mul_assoc, Nat.mul_comm n]
  omega

theorem lead_lt (b : List UInt8) (i : Nat) (h : i < lead b) : ∃ h : i < b.length, 127 < (b[i].toNat : Int) := by
  obtain ⟨x, hx, hx2⟩ := leadF_lt 7 b i h
  obtain ⟨h1, h2⟩ := List.getElem?_eq_some_iff.1 hx
  exact ⟨h1, by rw [h2]; omega⟩
theorem lead_at (b : List UInt8) (h : lead b < 7) (h2 : lead b < b.length) : (b[lead b].toNat : Int) < 128 := by
  obtain ⟨x, hx, hx2⟩ := leadF_at 7 b h h2
  obtain ⟨h1, h3⟩ := List.getElem?_eq_some_iff.1 hx
  have e : b[lead b].toNat = x.toNat := congrArg UInt8.toNat h3
  omega

def rdTail (b : List UInt8) (L : Nat) : Nat × Nat × Nat :=
  if L = 7 then (0, 0, 5) else if L = b.length then (0, 0, 3) else if 0 < L ∧ (b.getD L 0).toNat = 0 then (0, 0, 5) else
    if 281474976710656 < vl b (L + 1) then (0, 0, 1) else (vl b (L + 1), L + 1, 0)

set_option maxHeartbeats 800000 in
theorem refRead_spec (b : List UInt8) (hb : b.length ≤ 100000000) (k : Nat) : ACall Tryz.prog 163 [.slice none (b.map byteAV)] k [] (rdAV (rdS b)) [] := by
  have hl7 : lead b ≤ 7 := (leadF_le 7 b).1
  have hll : lead b ≤ b.length := (leadF_le 7 b).2
  have hlt := lead_lt b
  have hat := lead_at b
  have hrd : rdS b = rdTail b (lead b) := rfl
  rw [hrd]
  clear hrd
  generalize lead b = L at *
  refine Bd Tryz.func163 Tryz.ntmps163 fun σ N hp hpn hk hkn hfree => ?_
  refine Wk ?_
  refine go_after (fun c => c.s 5 = .lit (.int .i64 L) ∧ c.s 0 = .slice none (b.map byteAV) ∧ N + 4 ≤ c.n ∧ (∀ id, id < N → c.σ id = σ id)) ?_ ?_
  · refine go_loop (aloop mixed (by kernel_rfl) (fun c => ∃ i : Nat, c.s 5 = .lit (.int .i64 i) ∧ c.s 0 = .slice none (b.map byteAV) ∧ N + 4 ≤ c.n ∧ (∀ id, id < N → c.σ id = σ id) ∧ i ≤ L)
      (fun c => match c.s 5 with | .lit (.int _ m) => L - m.toNat | _ => 0) ⟨0, by simp (disch := omega) [go_sem, *, -List.reduceReplicate], by simp (disch := omega) [go_sem, *, -List.reduceReplicate], by simp, (fun id hid => by simp (disch := omega) only [upd_ne, wr_cons, wr_nil]; try exact hlow id hid), by omega⟩ ?_)
    rintro ⟨s, σ', n'⟩ ⟨i, h5, h0, hn', hlow, hi⟩
    simp only at h5 h0 hn' hlow
    by_cases hiL : i < L
    · obtain ⟨hib, g3⟩ := hlt i hiL
      have g1 : (i : Int) < (b.length : Int) := by omega
      have g2 : (i : Int) < 7 := by omega
      clear hlt hat
      refine Wk ?_
      refine ⟨⟨i + 1, by simp (disch := omega) [go_sem, *, -List.reduceReplicate], by simp (disch := omega) [go_sem, *, -List.reduceReplicate], by simp only; omega, (fun id hid => by simp (disch := omega) only [upd_ne, wr_cons, wr_nil]; try exact hlow id hid), by omega⟩, ?_⟩
      simp (disch := omega) [go_sem, *, -List.reduceReplicate]
      omega
    · have hiL' : i = L := by omega
      subst hiL'
      clear hlt hi hiL
      by_cases c1 : (i : Int) < (b.length : Int)
      · by_cases c2 : (i : Int) < 7
        · have c3 := hat (by omega) (by omega)
          have c4 : ¬ (127 : Int) < (b[i].toNat : Int) := by omega
          clear hat c3
          refine Wk ?_
          exact ⟨by simp (disch := omega) [go_sem, *, -List.reduceReplicate], by simp (disch := omega) [go_sem, *, -List.reduceReplicate], by simp only; omega, (fun id hid => by simp (disch := omega) only [upd_ne, wr_cons, wr_nil]; try exact hlow id hid)⟩
        · clear hat
          refine Wk ?_
          exact ⟨by simp (disch := omega) [go_sem, *, -List.reduceReplicate], by simp (disch := omega) [go_sem, *, -List.reduceReplicate], by simp only; omega, (fun id hid => by simp (disch := omega) only [upd_ne, wr_cons, wr_nil]; try exact hlow id hid)⟩
      · clear hat
        refine Wk ?_
        exact ⟨by simp (disch := omega) [go_sem, *, -List.reduceReplicate], by simp (disch := omega) [go_sem, *, -List.reduceReplicate], by simp only; omega, (fun id hid => by simp (disch := omega) only [upd_ne, wr_cons, wr_nil]; try exact hlow id hid)⟩
  · rintro ⟨s, σ', n'⟩ ⟨h5, h0, hn', hlow⟩
    simp only at h5 h0 hn' hlow
    clear hlt hat
    unfold rdTail rdAV
    by_cases c1 : L = 7
    · rw [if_pos c1]
      subst c1
      exact W0
    · rw [if_neg c1]
      by_cases c2 : L = b.length
      · rw [if_pos c2]
        have d1 : ¬ (L : Int) = 7 := by omega
        have d2 : (L : Int) = (b.length : Int) := by omega
        exact W0
      · rw [if_neg c2]
        have d1 : ¬ (L : Int) = 7 := by omega
        have d2 : ¬ (L : Int) = (b.length : Int) := by omega
        have d3 : L < b.length := by omega
        have hg : (b.getD L 0).toNat = b[L].toNat := by simp [List.getD, d3]
        by_cases c3 : 0 < L ∧ (b.getD L 0).toNat = 0
        · rw [if_pos c3]
          have e1 : (0 : Int) < (L : Int) := by omega
          have e2 : (b[L].toNat : Int) = 0 := by omega
          clear hg c3
          exact W0
        · rw [if_neg c3]
          have key : ((0 : Int) < (L : Int) ∧ ¬ (b[L].toNat : Int) = 0) ∨ ¬ 0 < L := by omega
          have hv := vl_lt b (L + 1)
          have hL6 : L ≤ 6 := by omega
          clear hg c3
          have hlow0 := hlow
          rcases key with ⟨e1, e2⟩ | e1
          all_goals
            refine Wk ?_
            refine go_after (fun c => c.s 5 = .lit (.int .i64 L) ∧ c.s 6 = .lit (.int .i64 (vl b (L + 1))) ∧ (∀ id, id < N → c.σ id = σ id)) ?_ ?_
            · refine go_loop (aloop mixed (by kernel_rfl) (fun c => ∃ (i n : Nat), c.s 7 = .lit (.int .i64 ((i : Int) - 1)) ∧ c.s 5 = .lit (.int .i64 L) ∧ c.s 6 = .lit (.int .i64 n) ∧ c.s 0 = .slice none (b.map byteAV) ∧ (∀ id, id < N → c.σ id = σ id) ∧ N ≤ c.n ∧ i ≤ L + 1 ∧ vl b (L + 1) = vl b i + n * 128 ^ i)
                (fun c => match c.s 7 with | .lit (.int _ m) => (m + 1).toNat | _ => 0) ⟨L + 1, 0, by (simp (disch := omega) [go_sem, *, -List.reduceReplicate]; try omega), by simp (disch := omega) [go_sem, *, -List.reduceReplicate], by simp (disch := omega) [go_sem, *, -List.reduceReplicate], by simp (disch := omega) [go_sem, *, -List.reduceReplicate], (fun id hid => by simp (disch := omega) only [upd_ne, wr_cons, wr_nil]; try exact hlow id hid), by simp only; omega, by omega, by omega⟩ ?_)
              rintro ⟨s2, σ2, n2⟩ ⟨i, n, h7, h5, h6, h0, hlow, hn2, hi, hvl⟩
              simp only at h7 h5 h6 h0 hlow hn2
              by_cases hi0 : i = 0
              · subst hi0
                have f1 : ¬ (0 : Int) ≤ ((0 : Nat) : Int) - 1 := by omega
                have f2 : n = vl b (L + 1) := by rw [hvl]; simp [vl]
                clear hvl
                subst f2
                refine Wk ?_
                exact ⟨by simp (disch := omega) [go_sem, *, -List.reduceReplicate], by simp (disch := omega) [go_sem, *, -List.reduceReplicate], (fun id hid => by simp (disch := omega) only [upd_ne, wr_cons, wr_nil]; try exact hlow id hid)⟩
              · obtain ⟨i, rfl⟩ : ∃ j, i = j + 1 := ⟨i - 1, by omega⟩
                have f0 : ((i + 1 : Nat) : Int) - 1 = (i : Int) := by omega
                rw [f0] at h7
                have f1 : (0 : Int) ≤ (i : Int) := by omega
                have f2 : (i : Int) < (b.length : Int) := by omega
                have f3 : i < b.length := by omega
                rw [vl_back] at hvl
                have hg : (b.getD i 0).toNat = b[i].toNat := by simp [List.getD, f3]
                rw [hg] at hvl
                have hpos : 0 < 128 ^ i := Nat.pow_pos (by omega)
                have hbig : (128 * n + b[i].toNat % 128) * 1 ≤ (128 * n + b[i].toNat % 128) * 128 ^ i := Nat.mul_le_mul_left _ hpos
                have hvl7 : 128 ^ (L + 1) ≤ 128 ^ 7 := Nat.pow_le_pow_right (by omega) (by omega)
                have hsm : 128 * n + b[i].toNat % 128 < 562949953421312 := by omega
                have w1 : IntKind.i64.wrap (b[i].toNat : Int) = (b[i].toNat : Int) := wrap_i64 (by omega) (by have := b[i].toNat_lt; omega)
                have w2 : (b[i].toNat : Int).tmod 128 = ((b[i].toNat % 128 : Nat) : Int) := by rw [Int.tmod_eq_emod_of_nonneg (by omega)]; omega
                have w3 : IntKind.i64.wrap (128 * (n : Int)) = 128 * (n : Int) := wrap_i64 (by omega) (by omega)
                have w4 : IntKind.i64.wrap (128 * (n : Int) + ((b[i].toNat % 128 : Nat) : Int)) = ((128 * n + b[i].toNat % 128 : Nat) : Int) := by rw [wrap_i64 (by omega) (by omega)]; omega
                clear f0 hg hpos hbig hvl7
                have HV : vl b (L + 1) = vl b i + (128 * n + b[i].toNat % 128) * 128 ^ i := hvl
                clear hvl
                generalize hN : 128 * n + b[i].toNat % 128 = n3 at *
                generalize hB : ((b[i].toNat % 128 : Nat) : Int) = q at *
                clear hN hB
                revert HV
                generalize hVV : vl b (L + 1) = VV at *
                intro HV
                refine Wk ?_
                refine ⟨⟨i, n3, by simp (disch := omega) [go_sem, *, -List.reduceReplicate], by simp (disch := omega) [go_sem, *, -List.reduceReplicate], by simp (disch := omega) [go_sem, *, -List.reduceReplicate], by simp (disch := omega) [go_sem, *, -List.reduceReplicate], (fun id hid => by simp (disch := omega) only [upd_ne, wr_cons, wr_nil]; try exact hlow id hid), by simp only; omega, by omega, HV⟩, ?_⟩
                simp (disch := omega) [go_sem, *, -List.reduceReplicate]
                try omega
            · rintro ⟨s2, σ2, n2⟩ ⟨h5, h6, hlow⟩
              simp only at h5 h6 hlow
              have hvl7 : 128 ^ (L + 1) ≤ 128 ^ 7 := Nat.pow_le_pow_right (by omega) (by omega)
              have hv2 : vl b (L + 1) < 562949953421312 := by omega
              clear hv hvl7
              by_cases c4 : 281474976710656 < vl b (L + 1)
              · rw [if_pos c4]
                have c5 : (281474976710656 : Int) < (vl b (L + 1) : Int) := by omega
                clear c4
                exact W0
              · rw [if_neg c4]
                have c5 : ¬ (281474976710656 : Int) < (vl b (L + 1) : Int) := by omega
                clear c4
                exact W0
end Go.Proofs.YtemmlldpmgfblaaGreatDoor
