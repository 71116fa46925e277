/- The fixed fact 'alive' of the laws of prune is true. -/
import Derived.Test.YtijkadahcggmeaaB7
import Derived.Test.YtijkadahcggmeaaErr
namespace Go.Proofs.Ytijkadahcggmeaa
open Go.RowKit Go.Sort Go.Shelf Go.Lib

theorem ord_alive : ord aliveL = [1, 2, 0] := by
  have h1 : lt aliveL 1 0 = true := by decide
  have h2 : lt aliveL 2 0 = true := by decide
  have h3 : lt aliveL 1 2 = true := by decide
  have h6 : lt aliveL 2 1 = false := by decide
  show (List.range 3).mergeSort _ = _
  have : List.range 3 = [0, 1, 2] := rfl
  rw [this]
  simp [List.mergeSort, List.MergeSort.Internal.splitInTwo, h1, h2, h6]
theorem kept_alive0 : keptOf aliveL aliveP 0 = [1, 2] := by
  unfold keptOf; rw [ord_alive]; rfl
theorem kept_alive (k : Nat) (h : 0 < k) : keptOf aliveL aliveP k = [] := by
  have hp : aliveP k = 0 := by unfold aliveP; rw [if_neg (by omega)]
  unfold keptOf; rw [ord_alive, hp]
  simp [rrun, rstep, RS.no]
theorem keep_alive (i : Nat) (hi : i < 3) : keepB aliveL aliveP i = decide (0 < i) := by
  unfold keepB
  simp only [whyM, kept_alive0, kept_alive 1 (by omega), kept_alive 2 (by omega), kept_alive 3 (by omega), kept_alive 4 (by omega), kept_alive 5 (by omega)]
  obtain rfl | rfl | rfl : i = 0 ∨ i = 1 ∨ i = 2 := by omega
  all_goals decide
theorem gone_alive : goneS aliveL aliveP = [[97]] := by
  have : goneN aliveL aliveP aliveL.length = [0] := by
    show (List.range 3).filter _ = _
    have : List.range 3 = [0, 1, 2] := rfl
    rw [this]
    simp [List.filter, keep_alive]
  unfold goneS; rw [this]; exact List.mergeSort_singleton _
theorem pol_alive : PolOk aliveP := by
  refine ⟨fun k _ => ?_, by decide⟩
  unfold aliveP; split <;> omega
theorem times_alive : TimesOk aliveL := by
  intro i hi
  have hi' : i < 3 := hi
  obtain rfl | rfl | rfl : i = 0 ∨ i = 1 ∨ i = 2 := by omega
  all_goals decide
def aliveC : Array Value := ((snz ⟨#[97]⟩ 10).cells ++ (snz ⟨#[98]⟩ 30).cells ++ (snz ⟨#[99]⟩ 20).cells).toArray
theorem sn_alive (w : World) (g : Nat) (h : w.heap[g]? = some (.cells aliveC 30 (0, 0))) : SN w (some ⟨g, 0, none⟩) aliveL w.heap.size := by
  refine ⟨fun i hi => ⟨g, 0, rfl, lt_of_block h, ?_, ?_, ?_⟩⟩
  all_goals
    have hi' : i < 3 := hi
    obtain rfl | rfl | rfl : i = 0 ∨ i = 1 ∨ i = 2 := by omega
  · exact World.rangeAt_of_block h 0 36
  · exact World.rangeAt_of_block h 36 36
  · exact World.rangeAt_of_block h 72 36
  · rfl
  · rfl
  · rfl
  · decide
  · decide
  · decide

theorem eq_err (a b : Int) (w : World) : (binOp .eql 34 (.iface 59 (.int .i64 a)) (.iface 59 (.int .i64 b))).run Try.prog w = .ok (.bool (a == b)) w := by
  cases hq : Try.prog.info? 59 with
  | none => exact absurd hq (by have : (Try.prog.info? 59).isSome = true := by kernel_rfl
                                intro h; rw [h] at this; cases this)
  | some i =>
    have hc : (Try.prog.info? 59).map (·.comparable) = some true := by kernel_rfl
    rw [hq] at hc
    exact run_eql_iface_int w a b Try.underlying34 Try.underlying59 hq (by simpa using hc)

end Go.Proofs.Ytijkadahcggmeaa
