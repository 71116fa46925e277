/- The fixed fact 'alive' of the laws of prune is true: its walk. -/
import Derived.Test.YtijkadahcggmeaaB8
namespace Go.Proofs.Ytijkadahcggmeaa
open Go.RowKit Go.Sort Go.Shelf Go.Lib

theorem wpList_buildSlice {P : Program} {ops : Array Oper} {rest : List Oper} {o : Oper} {a : Act} {w w' : World} {Q : Exit → Act → World → Prop} (hg : o.guard = none) (t : TypeId) (n : Nat) (parts : Array (Nat × Operand)) (ho : o.op = .buildSlice t n parts)
    (vs : Array (Nat × Value)) (hp : (parts.map fun (i, x) => (i, a.eval x)) = vs) (v : Value) (hr : (Instr.buildSlice t n vs).run P w = .ok v w')
    (h : wpList P ops Q rest (a.put o.dst v) w') : wpList P ops Q (o :: rest) a w :=
  wpList_plain hg fun _ hK => by
    unfold Oper.wp execOp
    simp only [ho, Sem.run_bind, hp, hr, Result.andThen_ok]
    exact hK _ _ h

set_option maxRecDepth 100000 in
set_option maxHeartbeats 200000 in
theorem alive_any (w : World) : Calls Try.prog 7 #[] w fun e w' => e = .returned (.bool true) ∧ Below w.heap.size w w' := by
  have hbs : ∀ w : World, (Instr.buildSlice 24 3 #[(0, .agg (snz ⟨#[97]⟩ 10).cells.toArray), (1, .agg (snz ⟨#[98]⟩ 30).cells.toArray), (2, .agg (snz ⟨#[99]⟩ 20).cells.toArray)]).run Try.prog w = .ok (.slice (some ⟨w.heap.size, 0, none⟩) 3 3) (w.alloc (.cells aliveC 30)) := fun _ => by kernel_rfl
  have heq := eq_err 23 23
  go_enter Try.func7, Try.ntmps7
  go_wp2_with (fail)
  refine (at_any _ _ _).mono ?_; rintro e w1 ⟨rfl, hb1⟩
  go_wp2_with (fail)
  refine (at_any _ _ _).mono ?_; rintro e w2 ⟨rfl, hb2⟩
  go_wp2_with (fail)
  refine (at_any _ _ _).mono ?_; rintro e w3 ⟨rfl, hb3⟩
  have HB := Lib.hid hbs
  clear hbs
  go_wp2_with (refine wpList_buildSlice rfl 24 3 _ rfl #[(0, .agg (snz ⟨#[97]⟩ 10).cells.toArray), (1, .agg (snz ⟨#[98]⟩ 30).cells.toArray), (2, .agg (snz ⟨#[99]⟩ 20).cells.toArray)] ?_ _ (HB.out _) ?_; (focus (simp [Act.eval])))
  have hsn := sn_alive (w3.alloc (.cells aliveC 30)) w3.heap.size (heap_alloc_new _ _)
  refine (gone_ok aliveP (some ⟨w3.heap.size, 0, none⟩) 3 aliveL _ pol_alive (by decide) hsn times_alive).mono ?_
  rintro e w4 ⟨⟨v, rfl, hs⟩, hb4⟩
  rw [gone_alive] at hs
  obtain ⟨a, cap, rfl, hc⟩ := hs
  obtain ⟨b, o, rfl, hcell⟩ := hc 0 (by decide)
  have hcell0 : w4.cell? ⟨b, o, none⟩ = some (.string ⟨#[97]⟩) := hcell
  have HB := Lib.hid ((hb1.trans ((hb2.mono hb1.size).trans (hb3.mono (Nat.le_trans hb1.size hb2.size)))).trans (((Below.refl _ _).alloc (Nat.le_refl _) _ : Below w3.heap.size w3 (w3.alloc (.cells aliveC 30))).trans (hb4.mono (by simp)) |>.mono (Nat.le_trans hb1.size (Nat.le_trans hb2.size hb3.size))))
  clear hcell hc hsn hb1 hb2 hb3 hb4
  simp only [List.length_singleton]
  have hp0 : ¬ PolOk (fun _ => 0) := fun h => h.2 rfl
  have HP := Lib.hid hp0
  clear hp0
  go_wp2_with (fail)
  refine (check_bad (fun _ => 0) _ HP.out).mono ?_
  rintro e w5 ⟨rfl, hb5⟩
  go_wp2_with (fail)
  go_ret
  exact ⟨rfl, HB.out.trans (hb5.mono HB.out.size)⟩
end Go.Proofs.Ytijkadahcggmeaa
