/- The fixed fact 'alive' of the laws of prune is true; long, at and grown. -/
import Derived.Test.YtijkadahcggmeaaB6
namespace Go.Proofs.Ytijkadahcggmeaa
open Go.RowKit Go.Sort Go.Shelf Go.Lib

def zr : List Value := .int .i64 0 :: .int .i64 0 :: List.replicate 32 (.int .u8 0)
def snz (n : ByteArray) (t : Int) : Sn := ⟨n, t, zr⟩

theorem wpList_build' {P : Program} {ops : Array Oper} {rest : List Oper} {o : Oper} {a : Act} {w : World} {Q : Exit → Act → World → Prop} (hg : o.guard = none) (t : TypeId) (parts : Array (Nat × Operand)) (ho : o.op = .build t parts)
    (cells : Array Value) (hf : P.built t (parts.map fun (i, x) => (i, a.eval x)).toList = some cells)
    (h : wpList P ops Q rest (a.put o.dst (.agg cells)) w) : wpList P ops Q (o :: rest) a w :=
  wpList_build hg t parts ho (by rw [hf]; rfl) (by rw [hf]; exact h)

set_option maxRecDepth 100000 in
set_option maxHeartbeats 400000 in
theorem at_any (n : ByteArray) (t : Int) (w : World) : Calls Try.prog 9 #[.string n, .int .i64 t] w fun e w' => e = .returned (.agg (snz n t).cells.toArray) ∧ Below w.heap.size w w' := by
  have hb : Try.prog.built 30 [(0, .string n), (1, .int .i64 t)] = some (snz n t).cells.toArray := by kernel_rfl
  have hi30 : (Try.prog.info? 30).map (·.size) = some (snz n t).cells.toArray.size := by kernel_rfl
  have h1 : (snz n t).cells.toArray.all (·.oneCell') = true := by kernel_rfl
  go_enter Try.func9, Try.ntmps9
  go_wp2_with (first | (refine wpList_build' rfl 30 _ rfl _ hb ?_) | (refine wpList_store_new rfl 30 _ _ rfl _ (snz n t).cells.toArray rfl rfl rfl hi30 h1 ?_))
  refine bodyPost_ret (v := .agg (snz n t).cells.toArray) ?_ rfl ⟨rfl, ?_⟩
  · exact results_cell_row rfl _ _ w.heap.size 30 _ (0, 0) _ rfl (heap_alloc_new _ _) Try.underlying30 rfl hi30
  · exact (Below.refl _ _).alloc (Nat.le_refl _) _

theorem long_no (a : Option Addr) (n cap : Nat) (w : World) (h : n ≤ 150) : Calls Try.prog 8 #[.slice a n cap] w fun e w' => e = .returned (.bool false) ∧ w = w' := by
  go_enter Try.func8, Try.ntmps8
  go_wp2
  go_ret
  exact ⟨by simp; omega, rfl⟩
theorem long_yes (a : Option Addr) (n cap : Nat) (w : World) (h : 150 < n) : Calls Try.prog 8 #[.slice a n cap] w fun e w' => e = .returned (.bool true) ∧ w = w' := by
  go_enter Try.func8, Try.ntmps8
  go_wp2
  go_ret
  exact ⟨by simp; omega, rfl⟩
theorem grown_any (n m : Int) (w : World) : Calls Try.prog 23 #[.int .i64 n, .int .i64 m] w fun e w' => e = .returned (.int .i64 (max n (min m 1048576))) ∧ w = w' := by
  go_enter Try.func23, Try.ntmps23
  go_wp2
  go_ret
  exact ⟨rfl, rfl⟩

def aliveL : List Sn := [snz ⟨#[97]⟩ 10, snz ⟨#[98]⟩ 30, snz ⟨#[99]⟩ 20]
def aliveP : Nat → Int := fun k => if k = 0 then 2 else 0
end Go.Proofs.Ytijkadahcggmeaa
