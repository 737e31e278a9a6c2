/- The deck of numbers that the laws draw from. -/
import Derived.Test.YtaelnglalpiemaaDoorC9
import Derived.Test.YtaelnglalpiemaaDoorF
import Derived.Test.YtaelnglalpiemaaDoorC5
namespace Go.Proofs.YtaelnglalpiemaaDoor
open Go.Ab
attribute [local irreducible] Go.Ab.tyAV Go.Ab.aw Go.Ab.aops Go.Ab.kReg Go.Ab.aThen Go.Ab.aBlk Go.Ab.acond Go.Ab.aguard Go.Ab.astep Go.Ab.AStepX Go.Ab.aRet

theorem within_eq (x n : Int) (h : 0 < n) : (x.tmod n + n).tmod n = x % n := by
  have h2 : -n < x.tmod n := by have := Int.lt_tmod_of_pos x h; omega
  rw [Int.tmod_eq_emod_of_nonneg (by omega), Int.add_emod_right, Int.tmod_eq_emod]
  split
  · rename_i hh; simp
  · rw [Int.sub_emod]; have : n ∣ n.natAbs := by rw [Int.dvd_natAbs]; exact Int.dvd_refl n
    simp [Int.emod_emod_of_dvd, Int.emod_eq_zero_of_dvd this]

theorem Within_spec (x n : Int) (h : 0 < n) (hn : n ≤ 1000000000000000000) (k : Nat) :
    ACall Tryd.prog 28 [.lit (.int .i64 x), .lit (.int .i64 n)] k [] (.lit (.int .i64 (x % n))) [] := by
  have h0 : n ≠ 0 := by omega
  have h1 : x.tmod n < n := Int.tmod_lt_of_pos x h
  have h2 : -n < x.tmod n := by have := Int.lt_tmod_of_pos x h; omega
  refine ACall.of_body mixed Tryd.func28 rfl (by kernel_rfl) Tryd.ntmps28 (by kernel_rfl) rfl (by simp) (by simp) (by simp) fun σ N hp hpn hk hkn hfree => ?_
  refine Wk ?_
  exact go_result (by simp (disch := omega) [go_sem, *, -List.reduceReplicate]; rfl) (by simp only [AV.ren, within_eq x n h]) (fun id _ => rfl)

def deckBox (l : List Int) (i : Nat) : Ent := .box 78 (.agg [.slice none (l.map intAV), .lit (.int .i64 i)])
@[simp, go_sem] theorem deckBox_ne (l : List Int) (i : Nat) : (deckBox l i = .none) = False := by simp [deckBox]
@[go_sem] theorem deckBox_ren (l : List Int) (i : Nat) (f : Nat → Option Nat) : (deckBox l i).ren f = deckBox l i := by
  simp only [deckBox, ent_ren_box, AV.ren, AV.renl, renl_ints, Option.bind_none]
/-- A deck as it may be. -/
def Dk (l : List Int) (i : Nat) : Prop := l.length ≤ 9223372036854775807 ∧ i ≤ l.length

theorem New_spec (l : List Int) (k : Nat) : ACall Tryd.prog 12 [.slice none (l.map intAV)] k [] (.ptr k [] 0) [(k, deckBox l 0)] := by
  unfold deckBox
  refine ACall.of_body mixed Tryd.func12 rfl (by kernel_rfl) Tryd.ntmps12 (by kernel_rfl) rfl (by simp) (by simp) (by simp) fun σ N hp hpn hk hkn hfree => ?_
  refine Wk ?_
  refine go_result1 (r0 := N+3) (by simp (disch := omega) [go_sem, *, -List.reduceReplicate]; rfl) (by omega) (by simp (disch := omega) [go_sem]; try rfl) (fun id hid => by simp (disch := omega) only [upd_ne, wr_cons, wr_nil]; try exact hlow id hid) (by simp (disch := omega) only [upd_same, upd_ne]; rfl) (by simp (disch := omega) [go_sem])

theorem Next_none (l : List Int) (i : Nat) (n : Int) (hi : l.length ≤ i) (hb : i ≤ 9223372036854775807) (d k : Nat) :
    ACall Tryd.prog 50 [.ptr d [] 0, .lit (.int .i64 n)] k [(d, deckBox l i)] (.lit (.int .i64 0)) [(d, deckBox l i)] := by
  unfold deckBox
  refine ACall.of_body mixed Tryd.func50 rfl (by kernel_rfl) Tryd.ntmps50 (by kernel_rfl) rfl (by simp) (by simp) (by simp) fun σ N hp hpn hk hkn hfree => ?_
  have hd := hp _ (List.mem_singleton.2 rfl)
  have hdn := hpn _ (List.mem_singleton.2 rfl)
  simp only at hd hdn
  clear hp hpn
  refine Wk ?_
  refine go_resultW [(d, .box 78 (.agg [.slice none (l.map intAV), .lit (.int .i64 i)]))] (by simp (disch := omega) [go_sem, *, -List.reduceReplicate]; rfl) (by first | rfl | (simp (disch := omega) [go_sem]; done) | (simp (disch := omega) [go_sem, *]; done) | simp (disch := omega) [go_sem]) (fun id hid => by simp only [wr_cons, wr_nil]; try (by_cases hdd : id = d; (· (subst hdd; simp (disch := omega) [go_sem, *])); (· (simp (disch := omega) only [upd_ne]; try (first | exact hlow id hid hdd | exact hlow id hid))))) (by simp) (by simp (disch := omega) [go_sem, *])

theorem Next_some (l : List Int) (i : Nat) (n : Int) (hi : i < l.length) (hb : l.length ≤ 9223372036854775807) (h0 : 0 < n) (hn : n ≤ 1000000000000000000) (d k : Nat) :
    ACall Tryd.prog 50 [.ptr d [] 0, .lit (.int .i64 n)] k [(d, deckBox l i)] (.lit (.int .i64 (l[i] % n))) [(d, deckBox l (i + 1))] := by
  obtain ⟨x, hx⟩ : ∃ x, l[i] = x := ⟨_, rfl⟩
  have c1 := Within_spec x n h0 hn
  have hxx : intAV x = .lit (.int .i64 x) := rfl
  rw [hx]
  unfold deckBox
  refine ACall.of_body mixed Tryd.func50 rfl (by kernel_rfl) Tryd.ntmps50 (by kernel_rfl) rfl (by simp) (by simp) (by simp) fun σ N hp hpn hk hkn hfree => ?_
  have hd := hp _ (List.mem_singleton.2 rfl)
  have hdn := hpn _ (List.mem_singleton.2 rfl)
  simp only at hd hdn
  clear hp hpn
  have hcs := And.intro c1 True.intro
  refine Wk ?_
  refine go_resultW [(d, .box 78 (.agg [.slice none (l.map intAV), .lit (.int .i64 ((i : Int) + 1))]))] (by simp (disch := omega) [go_sem, *, -List.reduceReplicate]; rfl) (by first | rfl | (simp (disch := omega) [go_sem]; done) | (simp (disch := omega) [go_sem, *]; done) | simp (disch := omega) [go_sem]) (fun id hid => by simp only [wr_cons, wr_nil]; try (by_cases hdd : id = d; (· (subst hdd; simp (disch := omega) [go_sem, *])); (· (simp (disch := omega) only [upd_ne]; try (first | exact hlow id hid hdd | exact hlow id hid))))) (by simp) (by simp (disch := omega) [go_sem, *])

def nextD (l : List Int) (i : Nat) (n : Nat) : Nat × Nat := if h : i < l.length then ((l[i] % (n : Int)).toNat, i + 1) else (0, i)
theorem nextD_lt (l : List Int) (i : Nat) (n : Nat) (h : 0 < n) : (nextD l i n).1 < n := by
  unfold nextD
  split
  · have := Int.emod_nonneg l[i] (show (n : Int) ≠ 0 by omega)
    have := Int.emod_lt_of_pos l[i] (show (0 : Int) < (n : Int) by omega)
    simp only; omega
  · exact h
theorem nextD_dk {l : List Int} {i : Nat} (n : Nat) (h : Dk l i) : Dk l (nextD l i n).2 := by
  unfold nextD Dk at *
  split
  · exact ⟨h.1, by simp only; omega⟩
  · exact h
theorem Next_spec (l : List Int) (i : Nat) (n : Nat) (h : Dk l i) (h0 : 0 < n) (hn : n ≤ 1000000000000000000) (d k : Nat) :
    ACall Tryd.prog 50 [.ptr d [] 0, .lit (.int .i64 n)] k [(d, deckBox l i)] (.lit (.int .i64 (nextD l i n).1)) [(d, deckBox l (nextD l i n).2)] := by
  unfold nextD
  split
  · rename_i hi
    have := Next_some l i n hi h.1 (by omega) (by omega) d k
    have e : ((l[i] % (n : Int)).toNat : Int) = l[i] % (n : Int) := Int.toNat_of_nonneg (Int.emod_nonneg _ (by omega))
    simp only [e]; exact this
  · rename_i hi; exact Next_none l i n (by omega) (by have := h.1; have := h.2; omega) d k
/-- The next number, when no more than its bound is asked. -/
theorem Next_ex (l : List Int) (i : Nat) (n : Nat) (h : Dk l i) (h0 : 0 < n) (hn : n ≤ 1000000000000000000) :
    ∃ x j : Nat, x < n ∧ Dk l j ∧ ∀ d k, ACall Tryd.prog 50 [.ptr d [] 0, .lit (.int .i64 n)] k [(d, deckBox l i)] (.lit (.int .i64 x)) [(d, deckBox l j)] :=
  ⟨_, _, nextD_lt l i n h0, nextD_dk n h, Next_spec l i n h h0 hn⟩
end Go.Proofs.YtaelnglalpiemaaDoor
