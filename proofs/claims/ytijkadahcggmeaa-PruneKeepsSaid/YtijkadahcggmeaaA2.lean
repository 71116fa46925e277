/- What civil.Week and civil.Bucket answer. -/
import Derived.Test.YtijkadahcggmeaaA1
import Derived.Deep.DeepFit
namespace Go.Proofs.Ytijkadahcggmeaa
open Go.RowKit
theorem ret3 {a b a' b' : Int} {c : Value} (h : a = a') (h' : b = b') : Ending.returned (.tuple #[.int .i64 a, .int .i64 b, c]) = .returned (.tuple #[.int .i64 a', .int .i64 b', c]) := by rw [h, h']

set_option maxRecDepth 100000 in
set_option maxHeartbeats 1000000 in
theorem week_any (n : Int) (w : World) (hn : -12800000 ≤ n) (hn' : n ≤ 12800000) :
    Calls Try.prog 35 #[.int .i64 n] w fun e w' => e = .returned (.tuple #[.int .i64 (Cal.wy n), .int .i64 (Cal.wn n), .nilIface]) ∧ Below w.heap.size w w' := by
  have b := Cal.wd_bd n
  have e0 : n + 4 - Cal.wd n = Cal.thu n := rfl
  have bt : -12900000 ≤ Cal.thu n ∧ Cal.thu n ≤ 12900000 := by unfold Cal.thu; omega
  have by1 := Cal.dy_bd (Cal.thu n) (by omega) (by omega)
  have e1 : Cal.dy (Cal.thu n) = Cal.wy n := rfl
  rw [e1] at by1
  have bd := Cal.days_bd (Cal.wy n) by1.1 by1.2
  have hfd : ∀ (a b c : Value) (w : World), (Instr.field 75 (.agg #[a, b, c]) 0).run Try.prog w = .ok a w := fun _ _ _ _ => by kernel_rfl
  go_enter Try.func35, Try.ntmps35
  go_wp2_with (fail)
  refine (inRange_yes _ _ (by omega) (by omega)).mono ?_; rintro e w1 ⟨rfl, hb1⟩
  go_wp2_with (fail)
  refine (weekday_any _ _ (by omega) (by omega)).mono ?_; rintro e w2 ⟨rfl, rfl⟩
  go_wp2_with (fail)
  refine (date_any _ _ (by omega) (by omega)).mono ?_; rintro e w3 ⟨rfl, hb3⟩
  go_wp2_with (fail)
  refine (days_any _ _ _ _ (by omega) (by omega) (by omega) (by omega) (by omega) (by omega)).mono ?_; rintro e w4 ⟨rfl, hb4⟩
  have hs := Cal.first_le n
  go_wp2_with (fail)
  go_ret3
  exact ⟨ret3 rfl rfl, hb1.trans ((hb3.mono hb1.size).trans (hb4.mono (Nat.le_trans hb1.size hb3.size)))⟩

set_option maxHeartbeats 1000000 in
theorem bucket_any (k t : Int) (w : World) (hk : 1 ≤ k) (hk' : k ≤ 5) (hn : -1099511627776 ≤ t) (hn' : t ≤ 1099511627776) :
    Calls Try.prog 24 #[.int .i64 k, .int .i64 t] w fun e w' => e = .returned (.tuple #[.int .i64 (Cal.bkt k t), .nilIface]) ∧ Below w.heap.size w w' := by
  have bt : -12800000 ≤ t / 86400 ∧ t / 86400 ≤ 12800000 := by omega
  have by1 := Cal.dy_bd (t / 86400) (by omega) (by omega)
  have by2 := Cal.dm_bd (t / 86400)
  have by3 := Cal.wy_bd (t / 86400) bt.1 bt.2
  have by4 := Cal.wn_bd (t / 86400) bt.1 bt.2
  obtain rfl | rfl | rfl | rfl | rfl : k = 1 ∨ k = 2 ∨ k = 3 ∨ k = 4 ∨ k = 5 := by omega
  all_goals
    go_enter Try.func24, Try.ntmps24
    go_wp2_with (fail)
    refine (day_any _ _ (by omega) (by omega)).mono ?_; rintro e w1 ⟨rfl, rfl⟩
    go_wp2_with (fail)
    refine (date_any _ _ (by omega) (by omega)).mono ?_; rintro e w1 ⟨rfl, hb1⟩
    have hz := hb1.size
    go_wp2_with (fail)
  · refine (hour_any _ _ (by omega) (by omega)).mono ?_; rintro e w2 ⟨rfl, rfl⟩
    go_wp2_with (fail)
    go_ret2
    exact ⟨rfl, hb1.alloc hz _⟩
  · refine (day_any _ _ (by omega) (by omega)).mono ?_; rintro e w2 ⟨rfl, rfl⟩
    go_wp2_with (fail)
    go_ret2
    exact ⟨rfl, hb1.alloc hz _⟩
  · refine (day_any _ _ (by omega) (by omega)).mono ?_; rintro e w2 ⟨rfl, rfl⟩
    go_wp2_with (fail)
    refine (week_any _ _ (by omega) (by omega)).mono ?_; rintro e w2 ⟨rfl, hb2⟩
    go_wp2_with (fail)
    go_ret2
    exact ⟨rfl, (hb1.alloc hz _).trans (hb2.mono (by simp; omega))⟩
  · go_ret2
    exact ⟨rfl, hb1.alloc hz _⟩
  · go_ret2
    exact ⟨rfl, hb1.alloc hz _⟩

theorem bucket_bad (k t : Int) (w : World) (h : t < -1099511627776 ∨ 1099511627776 < t) :
    Calls Try.prog 24 #[.int .i64 k, .int .i64 t] w fun e w' => e = .returned (.tuple #[.int .i64 0, .iface 59 (.int .i64 24)]) ∧ w = w' := by
  rcases h with h | h
  · go_enter Try.func24, Try.ntmps24
    go_wp2
    go_ret2
    exact ⟨rfl, rfl⟩
  · have h2 : ¬ t < -1099511627776 := by omega
    go_enter Try.func24, Try.ntmps24
    go_wp2
    go_ret2
    exact ⟨rfl, rfl⟩
end Go.Proofs.Ytijkadahcggmeaa
