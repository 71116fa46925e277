/- The order of snapshots: what the closure that newest hands to the sort answers. -/
import Derived.Test.YtijkadahcggmeaaB1
import Derived.StillTailTactics
namespace Go.Proofs.Ytijkadahcggmeaa
open Go.RowKit

def cmpI (a b : Int) : Int := if a < b then -1 else if b < a then 1 else 0
def cmpS (a b : ByteArray) : Int := if Op.bytesLess a.toList b.toList then -1 else if (!Op.bytesLess a.toList b.toList && !(a.toList == b.toList)) then 1 else 0

theorem nan_int (a : Int) (w : World) : Calls Try.prog 52 #[.int .i64 a] w fun e w' => e = .returned (.bool false) ∧ w = w' := by
  go_enter Try.func52, Try.ntmps52
  go_wp2
  go_ret
  exact ⟨by simp, rfl⟩
theorem nan_str (a : ByteArray) (w : World) : Calls Try.prog 53 #[.string a] w fun e w' => e = .returned (.bool false) ∧ w = w' := by
  go_enter Try.func53, Try.ntmps53
  go_wp2
  go_ret
  exact ⟨by simp, rfl⟩

theorem cmp_int (a b : Int) (w : World) : Calls Try.prog 39 #[.int .i64 a, .int .i64 b] w fun e w' => e = .returned (.int .i64 (cmpI a b)) ∧ w = w' := by
  rcases Int.lt_trichotomy a b with h | h | h
  · have F := Lib.hid (show cmpI a b = -1 by unfold cmpI; rw [if_pos h])
    go_enter Try.func39, Try.ntmps39
    go_wp2_with (first | (go_at_call 52; refine (nan_int _ _).mono ?_; rintro e w' ⟨rfl, rfl⟩))
    go_ret
    rw [F.out]; exact ⟨rfl, rfl⟩
  · subst h
    have F := Lib.hid (show cmpI a a = 0 by unfold cmpI; rw [if_neg (by omega), if_neg (by omega)])
    go_enter Try.func39, Try.ntmps39
    go_wp2_with (first | (go_at_call 52; refine (nan_int _ _).mono ?_; rintro e w' ⟨rfl, rfl⟩))
    go_ret
    rw [F.out]; exact ⟨rfl, rfl⟩
  · have F := Lib.hid (show cmpI a b = 1 by unfold cmpI; rw [if_neg (by omega), if_pos h])
    have h' : ¬ a < b := by omega
    go_enter Try.func39, Try.ntmps39
    go_wp2_with (first | (go_at_call 52; refine (nan_int _ _).mono ?_; rintro e w' ⟨rfl, rfl⟩))
    go_ret
    rw [F.out]; exact ⟨rfl, rfl⟩

theorem cmp_str (a b : ByteArray) (w : World) : Calls Try.prog 40 #[.string a, .string b] w fun e w' => e = .returned (.int .i64 (cmpS a b)) ∧ w = w' := by
  by_cases h : Op.bytesLess a.toList b.toList = true
  · have F := Lib.hid (show cmpS a b = -1 by unfold cmpS; rw [if_pos h])
    go_enter Try.func40, Try.ntmps40
    go_wp2_with (first | (go_at_call 53; refine (nan_str _ _).mono ?_; rintro e w' ⟨rfl, rfl⟩))
    go_ret
    rw [F.out]; exact ⟨rfl, rfl⟩
  · have h1 : Op.bytesLess a.toList b.toList = false := by simpa using h
    by_cases h2 : (a.toList == b.toList) = true
    · have F := Lib.hid (show cmpS a b = 0 by unfold cmpS; rw [if_neg h, if_neg (by simp [h1, h2])])
      clear h
      go_enter Try.func40, Try.ntmps40
      go_wp2_with (first | (go_at_call 53; refine (nan_str _ _).mono ?_; rintro e w' ⟨rfl, rfl⟩))
      go_ret
      rw [F.out]; exact ⟨rfl, rfl⟩
    · have h3 : (a.toList == b.toList) = false := by simpa using h2
      have F := Lib.hid (show cmpS a b = 1 by unfold cmpS; rw [if_neg h, if_pos (by simp [h1, h3])])
      clear h h2
      go_enter Try.func40, Try.ntmps40
      go_wp2_with (first | (go_at_call 53; refine (nan_str _ _).mono ?_; rintro e w' ⟨rfl, rfl⟩))
      go_ret
      rw [F.out]; exact ⟨rfl, rfl⟩

def or3 (a b c : Int) : Int := if a ≠ 0 then a else if b ≠ 0 then b else c

theorem or_three (g : Nat) (a b c : Int) (w : World) (h0 : w.cell? ⟨g, 0, none⟩ = some (.int .i64 a)) (h1 : w.cell? ⟨g, 1, none⟩ = some (.int .i64 b)) (h2 : w.cell? ⟨g, 2, none⟩ = some (.int .i64 c)) :
    Calls Try.prog 38 #[.slice (some ⟨g, 0, none⟩) 3 3] w fun e w' => e = .returned (.int .i64 (or3 a b c)) ∧ w = w' := by
  have cells : ∀ k : Nat, k < 3 → w.cell? ⟨g, k, none⟩ = some (.int .i64 (if k = 0 then a else if k = 1 then b else c)) := by
    intro k hk
    obtain rfl | rfl | rfl : k = 0 ∨ k = 1 ∨ k = 2 := by omega
    · exact h0
    · exact h1
    · exact h2
  clear h0 h1 h2
  go_enter Try.func38, Try.ntmps38
  go_wp2
  go_loop [5, 8] (fun v i => ∃ k : Nat, k ≤ 3 ∧ i = .int .i64 k ∧ (0 < k → a = 0) ∧ (1 < k → b = 0) ∧ (2 < k → c = 0)) (fun _ i => 3 - (intOf i).toNat)
  case atStart => exact ⟨0, by omega, rfl, by omega, by omega, by omega⟩
  case round =>
    obtain ⟨k, hk, rfl, ha, hb, hc⟩ := hrel
    by_cases hlt : k < 3
    · have hcell := cells k hlt
      generalize hv : (if k = 0 then a else if k = 1 then b else c) = v at hcell
      have Hv := Lib.hid hv
      have Ha := Lib.hid ha
      have Hb := Lib.hid hb
      clear hv ha hb hc cells
      by_cases h0 : v = 0
      · subst h0
        go_wp2
        go_round
        case rel =>
          refine ⟨k + 1, by omega, by go_num, fun _ => ?_, fun _ => ?_, fun _ => ?_⟩
          · by_cases e : k = 0
            · have := Hv.out; rw [if_pos e] at this; exact this
            · exact Ha.out (by omega)
          · by_cases e : k = 1
            · have := Hv.out; rw [if_neg (by omega), if_pos e] at this; exact this
            · exact Hb.out (by omega)
          · have := Hv.out; rw [if_neg (by omega), if_neg (by omega)] at this; exact this
        case measure => simp [intOf]; omega
      · have h0' : (v != 0) = true := by simpa using h0
        have F := Lib.hid (show or3 a b c = v by
          have e1 := Hv.out
          have e2 := Ha.out
          have e3 := Hb.out
          unfold or3
          split at e1
          · rw [e1, if_pos h0]
          · rw [if_neg (by simp [e2 (by omega)])]
            split at e1
            · rw [e1, if_pos h0]
            · rw [if_neg (by simp [e3 (by omega)])]; exact e1)
        clear h0
        go_wp2
        go_ret
        rw [F.out]; exact ⟨rfl, rfl⟩
    · obtain rfl : k = 3 := by omega
      have F := Lib.hid (show or3 a b c = 0 by unfold or3; rw [if_neg (by simp [ha]), if_neg (by simp [hb])]; exact hc (by omega))
      clear ha hb hc cells
      go_wp2
      go_ret
      rw [F.out]; exact ⟨rfl, rfl⟩

theorem flipw {f : FuncId} {args : Array Value} {w : World} {v : Value} (h : Calls Try.prog f args w fun e w' => e = .returned v ∧ w = w') :
    Calls Try.prog f args w fun e w' => e = .returned v ∧ w' = w := h.mono fun _ _ ⟨a, b⟩ => ⟨a, b.symm⟩
def cfI (tx ty : Int) (nx ny : ByteArray) (x y : Nat) : Int := or3 (cmpI ty tx) (cmpS ny nx) (cmpI y x)

set_option maxRecDepth 100000 in
set_option maxHeartbeats 1000000 in
theorem closure_any (g sb so n cap : Nat) (x y : Nat) (tx ty : Int) (nx ny : ByteArray) (w : World) (hx : x < n) (hy : y < n) (hn : n ≤ 1000)
    (hg : w.cell? ⟨g, 0, none⟩ = some (.slice (some ⟨sb, so, none⟩) n cap))
    (htx : w.cell? ⟨sb, so + x * 36 + 1, none⟩ = some (.int .i64 tx)) (hty : w.cell? ⟨sb, so + y * 36 + 1, none⟩ = some (.int .i64 ty))
    (hnx : w.cell? ⟨sb, so + x * 36, none⟩ = some (.string nx)) (hny : w.cell? ⟨sb, so + y * 36, none⟩ = some (.string ny)) :
    Calls Try.prog 37 #[.int .i64 x, .int .i64 y, .pointer (some ⟨g, 0, none⟩)] w fun e w' => e = .returned (.int .i64 (cfI tx ty nx ny x y)) ∧
      ∃ o, w' = (w.alloc o).drew := by
  go_enter Try.func37, Try.ntmps37
  go_wp2
  go_still_tail 25, (by kernel_rfl)
  still_call (flipw (cmp_int _ _ _))
  repeat still_step
  still_call (flipw (cmp_str _ _ _))
  repeat still_step
  still_call (flipw (cmp_int _ _ _))
  refine wpStill_nil ?_
  go_wp2_with (fail)
  refine (or_three _ (cmpI ty tx) (cmpS ny nx) (cmpI y x) _ (by simp) (by simp) (by simp)).mono ?_
  rintro e w' ⟨rfl, rfl⟩
  go_wp2_with (fail)
  go_ret
  exact ⟨rfl, _, rfl⟩
end Go.Proofs.Ytijkadahcggmeaa
