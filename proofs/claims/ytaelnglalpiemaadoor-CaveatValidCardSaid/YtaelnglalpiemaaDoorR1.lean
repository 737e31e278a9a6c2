/- The deck's Range. -/
import Derived.Test.YtaelnglalpiemaaDoorC9
import Derived.Test.YtaelnglalpiemaaDoorC7
import Derived.Test.YtaelnglalpiemaaDoorD1
namespace Go.Proofs.YtaelnglalpiemaaDoor
open Go.Ab
attribute [local irreducible] Go.Ab.tyAV Go.Ab.aw Go.Ab.aops Go.Ab.kReg Go.Ab.aThen Go.Ab.aBlk Go.Ab.acond Go.Ab.aguard Go.Ab.astep Go.Ab.AStepX Go.Ab.aRet

def rangeD (l : List Int) (i lo n : Nat) : Nat × Nat := (lo + (nextD l i n).1, (nextD l i n).2)
theorem Range_spec (l : List Int) (i : Nat) (lo hi n : Nat) (h : Dk l i) (hlo : lo ≤ 1000000000) (hhi : hi ≤ 1000000000) (hn : hi + 1 = lo + n) (h0 : 0 < n) (d k : Nat) :
    ACall Tryd.prog 81 [.ptr d [] 0, .lit (.int .i64 lo), .lit (.int .i64 hi)] k [(d, deckBox l i)] (.lit (.int .i64 (rangeD l i lo n).1)) [(d, deckBox l (rangeD l i lo n).2)] := by
  have c1 := Next_spec l i n h h0 (by omega)
  have b1 := nextD_lt l i n h0
  unfold rangeD
  generalize nextD l i n = X at *
  obtain ⟨x, j⟩ := X
  simp only at c1 b1 ⊢
  have hx : (hi : Int) - lo + 1 = n := by omega
  have hc : ((lo + x : Nat) : Int) = (lo : Int) + x := by omega
  rw [hc]
  clear hc
  refine ACall.of_body mixed Tryd.func81 rfl (by kernel_rfl) Tryd.ntmps81 (by kernel_rfl) rfl (by simp) (by simp) (by simp) fun σ N hp hpn hk hkn hfree => ?_
  have hd := hp _ (List.mem_singleton.2 rfl); have hdn := hpn _ (List.mem_singleton.2 rfl); simp only at hd hdn; clear hp hpn
  have hcs := And.intro (c1 d) True.intro
  clear c1
  refine Wk ?_
  refine go_resultW [(d, deckBox l j)] (by simp (disch := omega) [go_sem, *, -List.reduceReplicate]; rfl) (by first | rfl | (simp (disch := omega) [go_sem]; done) | (simp (disch := omega) [go_sem, *]; done) | simp (disch := omega) [go_sem]) (fun id hid => by simp only [wr_cons, wr_nil]; try (by_cases hdd : id = d; (· (subst hdd; simp (disch := omega) [go_sem, *])); (· (simp (disch := omega) only [upd_ne]; try (first | exact hlow id hid hdd | exact hlow id hid))))) (by simp) (by simp (disch := omega) [go_sem, *])
theorem rangeD_dk {l : List Int} {i lo n : Nat} (h : Dk l i) : Dk l (rangeD l i lo n).2 := nextD_dk n h
end Go.Proofs.YtaelnglalpiemaaDoor
