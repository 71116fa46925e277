/- What numbers, Check and keeps of package prune answer. -/
import Derived.Test.YtijkadahcggmeaaA2
namespace Go.Proofs.Ytijkadahcggmeaa
open Go.RowKit

/-- Six numbers of a policy as values. -/
abbrev P6 (p : Nat → Int) : Array Value := #[.int .i64 (p 0), .int .i64 (p 1), .int .i64 (p 2), .int .i64 (p 3), .int .i64 (p 4), .int .i64 (p 5)]

set_option maxHeartbeats 400000 in
theorem numbers_any (p : Nat → Int) (w : World) :
    Calls Try.prog 25 #[.agg (P6 p)] w fun e w' => e = .returned (.agg (P6 p)) ∧ Below w.heap.size w w' := by
  go_enter Try.func25, Try.ntmps25
  go_wp2
  refine bodyPost_ret (v := .agg (P6 p)) (by simp [results, Try.results25, go_sem]) rfl ⟨rfl, ?_⟩
  exact ((Below.refl _ _).alloc (Nat.le_refl _) _).alloc (by simp) _

theorem idx6 (p : Nat → Int) (k : Nat) (h : k < 6) (w : World) : (Instr.index 62 (.agg (P6 p)) (.int .i64 (k : Int))).run Try.prog w = .ok (.int .i64 (p k)) w := by
  obtain rfl | rfl | rfl | rfl | rfl | rfl : k = 0 ∨ k = 1 ∨ k = 2 ∨ k = 3 ∨ k = 4 ∨ k = 5 := by omega
  all_goals kernel_rfl

def polSum (p : Nat → Int) : Nat → Int | 0 => 0 | k + 1 => polSum p k + p k
/-- The policy is good. -/
def PolOk (p : Nat → Int) : Prop := (∀ k, k < 6 → 0 ≤ p k ∧ p k ≤ 1048576) ∧ polSum p 6 ≠ 0
theorem polSum_bd (p : Nat → Int) (n : Nat) (h : ∀ k, k < n → 0 ≤ p k ∧ p k ≤ 1048576) : 0 ≤ polSum p n ∧ polSum p n ≤ 1048576 * n := by
  induction n with
  | zero => simp [polSum]
  | succ n ih => have := ih (fun k hk => h k (by omega)); have := h n (by omega); simp only [polSum]; omega

set_option maxHeartbeats 1000000 in
theorem check_ok (p : Nat → Int) (w : World) (h : PolOk p) :
    Calls Try.prog 18 #[.agg (P6 p)] w fun e w' => e = .returned .nilIface ∧ Below w.heap.size w w' := by
  obtain ⟨h1, h2⟩ := h
  have H1 := Lib.hid h1; clear h1
  have hne : (polSum p 6 == 0) = false := by simpa using h2
  clear h2
  go_enter Try.func18, Try.ntmps18
  go_wp2_with (fail)
  refine (numbers_any p _).mono ?_; rintro e w1 ⟨rfl, hb1⟩
  go_wp2_with (fail)
  go_loop [3, 5, 8] (fun s n i => ∃ k : Nat, k ≤ 6 ∧ i = .int .i64 k ∧ s = .int .i64 (polSum p k)) (fun _ _ i => 6 - (intOf i).toNat)
  case atStart => exact ⟨0, by omega, rfl, rfl⟩
  case round =>
    obtain ⟨k, hk, rfl, rfl⟩ := hrel
    have hS := polSum_bd p k (fun j hj => H1.out j (by omega))
    by_cases hlt : k < 6
    · have hi := idx6 p k hlt
      have hp := H1.out k hlt
      go_wp2
      go_round
      case rel => exact ⟨k + 1, by omega, by go_num, rfl⟩
      case measure => simp [intOf]; omega
    · obtain rfl : k = 6 := by omega
      go_wp2
      go_ret
      exact ⟨rfl, (((Below.refl _ _).alloc (Nat.le_refl _) _).trans (hb1.mono (by simp)))⟩

theorem pol_bad (p : Nat → Int) (h : ¬ PolOk p) :
    (∃ K, K < 6 ∧ (∀ k, k < K → 0 ≤ p k ∧ p k ≤ 1048576) ∧ (p K < 0 ∨ 1048576 < p K)) ∨ ((∀ k, k < 6 → 0 ≤ p k ∧ p k ≤ 1048576) ∧ polSum p 6 = 0) := by
  by_cases h1 : ∀ k, k < 6 → 0 ≤ p k ∧ p k ≤ 1048576
  · exact .inr ⟨h1, Decidable.byContradiction fun h2 => h ⟨h1, h2⟩⟩
  · refine .inl ?_
    have key : ∀ n, n ≤ 6 → (∀ k, k < n → 0 ≤ p k ∧ p k ≤ 1048576) ∨ ∃ K, K < 6 ∧ (∀ k, k < K → 0 ≤ p k ∧ p k ≤ 1048576) ∧ (p K < 0 ∨ 1048576 < p K) := by
      intro n
      induction n with
      | zero => intro _; exact .inl (fun k hk => by omega)
      | succ n ih =>
        intro hn
        rcases ih (by omega) with a | a
        · by_cases b : 0 ≤ p n ∧ p n ≤ 1048576
          · refine .inl (fun k hk => ?_)
            by_cases e : k = n
            · subst e; exact b
            · exact a k (by omega)
          · exact .inr ⟨n, by omega, a, by omega⟩
        · exact .inr a
    rcases key 6 (by omega) with a | a
    · exact absurd a h1
    · exact a

set_option maxHeartbeats 1000000 in
theorem check_bad (p : Nat → Int) (w : World) (h : ¬ PolOk p) :
    Calls Try.prog 18 #[.agg (P6 p)] w fun e w' => e = .returned (.iface 59 (.int .i64 23)) ∧ Below w.heap.size w w' := by
  rcases pol_bad p h with ⟨K, hK, h1, h2⟩ | ⟨h1, h2⟩
  · clear h
    have H1 := Lib.hid h1; clear h1
    go_enter Try.func18, Try.ntmps18
    go_wp2_with (fail)
    refine (numbers_any p _).mono ?_; rintro e w1 ⟨rfl, hb1⟩
    go_wp2_with (fail)
    go_loop [3, 5, 8] (fun s n i => ∃ k : Nat, k ≤ K ∧ i = .int .i64 k ∧ s = .int .i64 (polSum p k)) (fun _ _ i => 6 - (intOf i).toNat)
    case atStart => exact ⟨0, by omega, rfl, rfl⟩
    case round =>
      obtain ⟨k, hk, rfl, rfl⟩ := hrel
      have hS := polSum_bd p k (fun j hj => H1.out j (by omega))
      have hlt : k < 6 := by omega
      have hi := idx6 p k hlt
      by_cases hlt : k < K
      · have hp := H1.out k hlt
        go_wp2
        go_round
        case rel => exact ⟨k + 1, by omega, by go_num, rfl⟩
        case measure => simp [intOf]; omega
      · obtain rfl : k = K := by omega
        rcases h2 with h2 | h2
        · go_wp2
          go_ret
          exact ⟨rfl, (((Below.refl _ _).alloc (Nat.le_refl _) _).trans (hb1.mono (by simp)))⟩
        · have h3 : ¬ p k < 0 := by omega
          go_wp2
          go_ret
          exact ⟨rfl, (((Below.refl _ _).alloc (Nat.le_refl _) _).trans (hb1.mono (by simp)))⟩
  · clear h
    have H1 := Lib.hid h1; clear h1
    have hne : (polSum p 6 == 0) = true := by simpa using h2
    clear h2
    go_enter Try.func18, Try.ntmps18
    go_wp2_with (fail)
    refine (numbers_any p _).mono ?_; rintro e w1 ⟨rfl, hb1⟩
    go_wp2_with (fail)
    go_loop [3, 5, 8] (fun s n i => ∃ k : Nat, k ≤ 6 ∧ i = .int .i64 k ∧ s = .int .i64 (polSum p k)) (fun _ _ i => 6 - (intOf i).toNat)
    case atStart => exact ⟨0, by omega, rfl, rfl⟩
    case round =>
      obtain ⟨k, hk, rfl, rfl⟩ := hrel
      have hS := polSum_bd p k (fun j hj => H1.out j (by omega))
      by_cases hlt : k < 6
      · have hi := idx6 p k hlt
        have hp := H1.out k hlt
        go_wp2
        go_round
        case rel => exact ⟨k + 1, by omega, by go_num, rfl⟩
        case measure => simp [intOf]; omega
      · obtain rfl : k = 6 := by omega
        go_wp2
        go_ret
        exact ⟨rfl, (((Below.refl _ _).alloc (Nat.le_refl _) _).trans (hb1.mono (by simp)))⟩

/-! ### keeps -/
def ruleRow (left : Int) (any : Bool) (last : Int) : Obj := .cells #[.int .i64 left, .bool any, .int .i64 last] 66 (0, 0)
theorem rule_cells {w : World} {b : Nat} {l : Int} {a : Bool} {t : Int} (h : w.heap[b]? = some (ruleRow l a t)) :
    w.cell? ⟨b, 0, none⟩ = some (.int .i64 l) ∧ w.cell? ⟨b, 1, none⟩ = some (.bool a) ∧ w.cell? ⟨b, 2, none⟩ = some (.int .i64 t) ∧
    w.frozen? ⟨b, 0, none⟩ = false ∧ w.frozen? ⟨b, 1, none⟩ = false ∧ w.frozen? ⟨b, 2, none⟩ = false := by
  unfold ruleRow at h
  refine ⟨?_, ?_, ?_, ?_, ?_, ?_⟩ <;> simp [World.cell?, World.frozen?, h]
theorem set3 {w : World} {b : Nat} {l l' t t' : Int} {a a' : Bool} (h : w.heap[b]? = some (ruleRow l a t)) :
    (((w.setCell ⟨b, 0, none⟩ (.int .i64 l')).setCell ⟨b, 1, none⟩ (.bool a')).setCell ⟨b, 2, none⟩ (.int .i64 t')).heap[b]? = some (ruleRow l' a' t') := by
  unfold ruleRow at h ⊢
  have h1 := heap_setCell_same w b 0 _ 66 (.int .i64 l') h
  have h2 := heap_setCell_same _ b 1 _ 66 (.bool a') h1
  have h3 := heap_setCell_same _ b 2 _ 66 (.int .i64 t') h2
  simpa using h3

/-- Behind a call: all blocks but b as they were, none new. -/
structure Only (b : Nat) (w w' : World) : Prop where
  os : w'.os = w.os
  tape : w'.tape = w.tape
  output : w'.output = w.output
  size : w'.heap.size = w.heap.size
  block : ∀ k, k ≠ b → w'.heap[k]? = w.heap[k]?
theorem Only.setCell {b : Nat} {w w1 : World} (h : Only b w w1) (o : Nat) (v : Value) : Only b w (w1.setCell ⟨b, o, none⟩ v) :=
  ⟨h.os, h.tape, h.output, by simpa [World.setCell] using h.size, fun k hk => (Below.heap_setCell _ _ _ _ hk).trans (h.block k hk)⟩
theorem Only.refl (b : Nat) (w : World) : Only b w w := ⟨rfl, rfl, rfl, rfl, fun _ _ => rfl⟩

set_option maxHeartbeats 400000 in
theorem keeps_no (b : Nat) (l t k : Int) (a : Bool) (w : World) (h : w.heap[b]? = some (ruleRow l a t)) (hn : l = 0 ∨ (a = true ∧ t = k)) :
    Calls Try.prog 27 #[.pointer (some ⟨b, 0, none⟩), .int .i64 k] w fun e w' => e = .returned (.bool false) ∧ w = w' := by
  obtain ⟨c0, c1, c2, f0, f1, f2⟩ := rule_cells h
  clear h
  by_cases h0 : l = 0
  · subst h0; clear hn
    go_enter Try.func27, Try.ntmps27
    go_wp2
    go_ret
    exact ⟨rfl, rfl⟩
  · obtain ⟨rfl, rfl⟩ : a = true ∧ t = k := by rcases hn with h | h; exact absurd h h0; exact h
    have h0' : (l == 0) = false := by simpa using h0
    clear hn h0
    go_enter Try.func27, Try.ntmps27
    go_wp2
    go_ret
    exact ⟨rfl, rfl⟩

set_option maxHeartbeats 400000 in
theorem keeps_yes (b : Nat) (l t k : Int) (a : Bool) (w : World) (h : w.heap[b]? = some (ruleRow l a t)) (hl : 0 < l) (hl' : l ≤ 1048576) (hn : ¬ (a = true ∧ t = k)) :
    Calls Try.prog 27 #[.pointer (some ⟨b, 0, none⟩), .int .i64 k] w fun e w' => e = .returned (.bool true) ∧ w'.heap[b]? = some (ruleRow (l - 1) true k) ∧ Only b w w' := by
  obtain ⟨c0, c1, c2, f0, f1, f2⟩ := rule_cells h
  have H := Lib.hid h
  clear h
  have h0' : (l == 0) = false := by simp; omega
  cases a
  · clear hn
    go_enter Try.func27, Try.ntmps27
    go_wp2
    go_ret
    exact ⟨rfl, set3 H.out, (((Only.refl b w).setCell _ _).setCell _ _).setCell _ _⟩
  · have h1 : (t == k) = false := by simpa using hn
    clear hn
    go_enter Try.func27, Try.ntmps27
    go_wp2
    go_ret
    exact ⟨rfl, set3 H.out, (((Only.refl b w).setCell _ _).setCell _ _).setCell _ _⟩
end Go.Proofs.Ytijkadahcggmeaa
