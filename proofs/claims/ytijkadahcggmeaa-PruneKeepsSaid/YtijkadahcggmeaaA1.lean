/- What the functions of package civil answer, as the calendar's plain arithmetic. -/
import Derived.Test.YtijkadahcggmeaaC1
import Derived.Test.YtijkadahcggmeaaRows
import Derived.WalkKit
import Derived.WalkSpells
import Derived.WalkLawsBesides
import Derived.Deep.QuietTactic
import Derived.BigQuiet
import Derived.Lib.Hide
namespace Go.Proofs.Ytijkadahcggmeaa
open Go.RowKit

theorem ret_int {k : IntKind} {a b : Int} (h : a = b) : Ending.returned (.int k a) = .returned (.int k b) := by rw [h]

set_option maxHeartbeats 400000 in
theorem floor_any (n d : Int) (w : World) (hd : 1 ≤ d) (hd' : d ≤ 1000000) (hn : -1000000000000000 ≤ n) (hn' : n ≤ 1000000000000000) :
    Calls Try.prog 47 #[.int .i64 n, .int .i64 d] w fun e w' => e = .returned (.int .i64 (n / d)) ∧ w = w' := by
  have F := Lib.hid (floor_fact n d hd)
  have B := Lib.hid (ediv_bd n d 1000000000000000 hd hn hn' (by omega))
  by_cases h : n.tmod d < 0
  · go_enter Try.func47, Try.ntmps47
    go_wp2
    go_ret
    refine ⟨ret_int ?_, rfl⟩
    have := F.out.1 h; have := B.out; unfold wrap64; omega
  · go_enter Try.func47, Try.ntmps47
    go_wp2
    go_ret
    refine ⟨ret_int ?_, rfl⟩
    have := F.out.2 h; have := B.out; omega


set_option maxHeartbeats 1000000 in
theorem days_any (y m d : Int) (w : World) (hy : -100000 ≤ y) (hy' : y ≤ 100000) (hm : 1 ≤ m) (hm' : m ≤ 12) (hd : 0 ≤ d) (hd' : d ≤ 100) :
    Calls Try.prog 50 #[.agg #[.int .i64 y, .int .i64 m, .int .i64 d]] w fun e w' => e = .returned (.int .i64 (Cal.days y m d)) ∧ Below w.heap.size w w' := by
  by_cases h : m ≤ 2
  · go_enter Try.func50, Try.ntmps50
    go_wp2_with (go_at_call 47; refine (floor_any _ _ _ (by omega) (by omega) (by omega) (by omega)).mono ?_; rintro e w' ⟨rfl, rfl⟩)
    go_ret
    refine ⟨ret_int ?_, (Below.refl _ _).alloc (Nat.le_refl _) _⟩
    simp only [Cal.days, h, if_true]
  · go_enter Try.func50, Try.ntmps50
    go_wp2_with (go_at_call 47; refine (floor_any _ _ _ (by omega) (by omega) (by omega) (by omega)).mono ?_; rintro e w' ⟨rfl, rfl⟩)
    go_ret
    refine ⟨ret_int ?_, (Below.refl _ _).alloc (Nat.le_refl _) _⟩
    have h' : ¬ m ≤ 2 := by omega
    simp only [Cal.days, h', if_false]

set_option maxHeartbeats 1000000 in
theorem date_any (n : Int) (w : World) (hn : -20000000 ≤ n) (hn' : n ≤ 20000000) :
    Calls Try.prog 32 #[.int .i64 n] w fun e w' => e = .returned (.agg #[.int .i64 (Cal.dy n), .int .i64 (Cal.dm n), .int .i64 (Cal.dd n)]) ∧ Below w.heap.size w w' := by
  have b1 := Cal.doe_bd n
  have b2 := Cal.yoe_bd n
  have b3 := Cal.doy_bd n
  have b4 := Cal.mp_bd n
  have e0 : n + 719468 - (n + 719468) / 146097 * 146097 = Cal.doe n := rfl
  have e1 : (Cal.doe n - Cal.doe n / 1460 + Cal.doe n / 36524 - Cal.doe n / 146096) / 365 = Cal.yoe n := rfl
  have e2 : Cal.doe n - (365 * Cal.yoe n + Cal.yoe n / 4 - Cal.yoe n / 100) = Cal.doy n := rfl
  have e3 : (5 * Cal.doy n + 2) / 153 = Cal.mp n := rfl
  have e4 : (Cal.mp n + 2) % 12 + 1 = Cal.dm n := rfl
  by_cases h : Cal.dm n ≤ 2
  · have F := Lib.hid (show Cal.dy n = (n + 719468) / 146097 * 400 + Cal.yoe n + 1 by unfold Cal.dy Cal.era; rw [if_pos h])
    go_enter Try.func32, Try.ntmps32
    go_wp2_with (go_at_call 47; refine (floor_any _ _ _ (by omega) (by omega) (by omega) (by omega)).mono ?_; rintro e w' ⟨rfl, rfl⟩)
    refine bodyPost_ret (v := .agg #[.int .i64 ((n + 719468) / 146097 * 400 + Cal.yoe n + 1), .int .i64 (Cal.dm n), .int .i64 (Cal.doy n - (153 * Cal.mp n + 2) / 5 + 1)]) (by simp [results, Try.results32, go_sem]) rfl ⟨?_, ?_⟩
    · rw [F.out]; rfl
    · exact ((Below.refl _ _).alloc (Nat.le_refl _) _).alloc (by simp) _
  · have F := Lib.hid (show Cal.dy n = (n + 719468) / 146097 * 400 + Cal.yoe n by unfold Cal.dy Cal.era; rw [if_neg h])
    have h' : 2 < Cal.dm n := by omega
    go_enter Try.func32, Try.ntmps32
    go_wp2_with (go_at_call 47; refine (floor_any _ _ _ (by omega) (by omega) (by omega) (by omega)).mono ?_; rintro e w' ⟨rfl, rfl⟩)
    refine bodyPost_ret (v := .agg #[.int .i64 ((n + 719468) / 146097 * 400 + Cal.yoe n), .int .i64 (Cal.dm n), .int .i64 (Cal.doy n - (153 * Cal.mp n + 2) / 5 + 1)]) (by simp [results, Try.results32, go_sem]) rfl ⟨?_, ?_⟩
    · rw [F.out]; rfl
    · exact ((Below.refl _ _).alloc (Nat.le_refl _) _).alloc (by simp) _

theorem weekday_any (n : Int) (w : World) (hn : -20000000 ≤ n) (hn' : n ≤ 20000000) :
    Calls Try.prog 49 #[.int .i64 n] w fun e w' => e = .returned (.int .i64 (Cal.wd n)) ∧ w = w' := by
  by_cases h : 0 ≤ n
  · go_enter Try.func49, Try.ntmps49
    go_wp2
    go_ret
    exact ⟨ret_int (by unfold Cal.wd; omega), rfl⟩
  · have b : -6 ≤ n.tmod 7 ∧ n.tmod 7 ≤ 6 := by rw [tmod_if]; split <;> omega
    go_enter Try.func49, Try.ntmps49
    go_wp2
    go_ret
    refine ⟨ret_int ?_, rfl⟩
    rw [tmod_if]; unfold Cal.wd; split <;> omega

theorem day_any (t : Int) (w : World) (hn : -1099511627776 ≤ t) (hn' : t ≤ 1099511627776) :
    Calls Try.prog 33 #[.int .i64 t] w fun e w' => e = .returned (.int .i64 (t / 86400)) ∧ w = w' := by
  go_enter Try.func33, Try.ntmps33
  go_wp2_with (go_at_call 47; refine (floor_any _ _ _ (by omega) (by omega) (by omega) (by omega)).mono ?_; rintro e w' ⟨rfl, rfl⟩)
  go_ret
  exact ⟨rfl, rfl⟩

theorem hour_any (t : Int) (w : World) (hn : -1099511627776 ≤ t) (hn' : t ≤ 1099511627776) :
    Calls Try.prog 34 #[.int .i64 t] w fun e w' => e = .returned (.int .i64 (t / 3600)) ∧ w = w' := by
  go_enter Try.func34, Try.ntmps34
  go_wp2_with (go_at_call 47; refine (floor_any _ _ _ (by omega) (by omega) (by omega) (by omega)).mono ?_; rintro e w' ⟨rfl, rfl⟩)
  go_ret
  exact ⟨rfl, rfl⟩

set_option maxHeartbeats 400000 in
theorem inRange_yes (n : Int) (w : World) (hn : -13000000 ≤ n) (hn' : n ≤ 13000000) :
    Calls Try.prog 48 #[.int .i64 n] w fun e w' => e = .returned (.bool true) ∧ Below w.heap.size w w' := by
  have F1 : Cal.days (-40000) 1 1 = -15329228 := by decide
  have F2 : Cal.days 40000 12 31 = 13890537 := by decide
  go_enter Try.func48, Try.ntmps48
  go_wp2_with (fail)
  refine (days_any _ _ _ _ (by omega) (by omega) (by omega) (by omega) (by omega) (by omega)).mono ?_; rintro e w1 ⟨rfl, hb1⟩
  go_wp2_with (fail)
  refine (days_any _ _ _ _ (by omega) (by omega) (by omega) (by omega) (by omega) (by omega)).mono ?_; rintro e w2 ⟨rfl, hb2⟩
  go_wp2_with (fail)
  have g : decide (n ≤ 13890537) = true := by simp; omega
  simp only [g]
  go_ret
  exact ⟨rfl, hb1.trans (hb2.mono hb1.size)⟩

end Go.Proofs.Ytijkadahcggmeaa
