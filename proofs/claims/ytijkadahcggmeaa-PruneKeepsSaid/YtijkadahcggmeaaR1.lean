/- What the functions of the document's calendar answer: Leap, of, Length, Floor, Weekday. -/
import Derived.Test.YtijkadahcggmeaaC7
import Derived.Test.YtijkadahcggmeaaA1
namespace Go.Proofs.Ytijkadahcggmeaa
open Go.RowKit

theorem tmod_zero (y d : Int) : y.tmod d = 0 ↔ y % d = 0 :=
  ⟨fun h => Int.emod_eq_zero_of_dvd (Int.dvd_of_tmod_eq_zero h), fun h => Int.tmod_eq_zero_of_dvd (Int.dvd_of_emod_eq_zero h)⟩
theorem beq_t {a : Int} (h : a = 0) : (a == 0) = true := by simp [h]
theorem beq_f {a : Int} (h : a ≠ 0) : (a == 0) = false := by simp [h]
theorem bne_t {a : Int} (h : a ≠ 0) : (a != 0) = true := by simp [h]
theorem bne_f {a : Int} (h : a = 0) : (a != 0) = false := by simp [h]
theorem ret_bool {a b : Bool} (h : a = b) : Ending.returned (.bool a) = .returned (.bool b) := by rw [h]

set_option maxHeartbeats 400000 in
theorem leap_any (y : Int) (w : World) :
    Calls Try.prog 76 #[.int .i64 y] w fun e w' => e = .returned (.bool (Cal.leap y)) ∧ w = w' := by
  by_cases h4 : y % 400 = 0
  · have F := Lib.hid (show Cal.leap y = true by simp [Cal.leap, h4])
    have g := beq_t ((tmod_zero y 400).2 h4)
    clear h4
    go_enter Try.func76, Try.ntmps76
    go_wp2
    go_ret
    exact ⟨ret_bool F.out.symm, rfl⟩
  · have g := beq_f (mt (tmod_zero y 400).1 h4)
    by_cases h5 : y % 4 = 0
    · have g2 := beq_t ((tmod_zero y 4).2 h5)
      by_cases h6 : y % 100 = 0
      · have F := Lib.hid (show Cal.leap y = false by simp [Cal.leap, h4, h6])
        have g3 := bne_f ((tmod_zero y 100).2 h6)
        clear h4 h5 h6
        go_enter Try.func76, Try.ntmps76
        go_wp2
        go_ret
        exact ⟨ret_bool F.out.symm, rfl⟩
      · have F := Lib.hid (show Cal.leap y = true by simp [Cal.leap, h5, h6])
        have g3 := bne_t (mt (tmod_zero y 100).1 h6)
        clear h4 h5 h6
        go_enter Try.func76, Try.ntmps76
        go_wp2
        go_ret
        exact ⟨ret_bool F.out.symm, rfl⟩
    · have F := Lib.hid (show Cal.leap y = false by simp [Cal.leap, h4, h5])
      have g2 := beq_f (mt (tmod_zero y 4).1 h5)
      clear h4 h5
      go_enter Try.func76, Try.ntmps76
      go_wp2
      go_ret
      exact ⟨ret_bool F.out.symm, rfl⟩

theorem of_any (y : Int) (w : World) :
    Calls Try.prog 54 #[.int .i64 y] w fun e w' => e = .returned (.int .i64 (Cal.ofY y)) ∧ w = w' := by
  cases h : Cal.leap y
  · have F := Lib.hid (show Cal.ofY y = 365 by unfold Cal.leap at h; unfold Cal.ofY; rw [if_neg (by simpa using h)])
    have H := Lib.hid h
    clear h
    go_enter Try.func54, Try.ntmps54
    go_wp2_with (fail)
    refine (leap_any y _).mono ?_; rintro e w' ⟨rfl, rfl⟩
    rw [H.out]
    go_wp2_with (fail)
    go_ret
    exact ⟨ret_int F.out.symm, rfl⟩
  · have F := Lib.hid (show Cal.ofY y = 366 by unfold Cal.leap at h; unfold Cal.ofY; rw [if_pos (by simpa using h)])
    have H := Lib.hid h
    clear h
    go_enter Try.func54, Try.ntmps54
    go_wp2_with (fail)
    refine (leap_any y _).mono ?_; rintro e w' ⟨rfl, rfl⟩
    rw [H.out]
    go_wp2_with (fail)
    go_ret
    exact ⟨ret_int F.out.symm, rfl⟩

def mlen (m : Int) : Int := if m = 2 then 28 else if m = 4 ∨ m = 6 ∨ m = 9 ∨ m = 11 then 30 else 31
set_option maxHeartbeats 400000 in
theorem length_any (y m : Int) (w : World) (hm : 1 ≤ m) (hm' : m ≤ 12) :
    Calls Try.prog 55 #[.int .i64 y, .int .i64 m] w fun e w' => e = .returned (.int .i64 (Cal.len y m)) ∧ w = w' := by
  by_cases h2 : m = 2
  · subst h2
    cases h : Cal.leap y
    · have F := Lib.hid (show Cal.len y 2 = 28 by unfold Cal.leap at h; unfold Cal.len; rw [if_pos rfl, if_neg (by simpa using h)])
      have H := Lib.hid h
      clear h
      go_enter Try.func55, Try.ntmps55
      go_wp2_with (fail)
      refine (leap_any y _).mono ?_; rintro e w' ⟨rfl, rfl⟩
      rw [H.out]
      go_wp2_with (fail)
      go_ret
      exact ⟨ret_int (by rw [F.out]; decide +kernel), rfl⟩
    · have F := Lib.hid (show Cal.len y 2 = 29 by unfold Cal.leap at h; unfold Cal.len; rw [if_pos rfl, if_pos (by simpa using h)])
      have H := Lib.hid h
      clear h
      go_enter Try.func55, Try.ntmps55
      go_wp2_with (fail)
      refine (leap_any y _).mono ?_; rintro e w' ⟨rfl, rfl⟩
      rw [H.out]
      go_wp2_with (fail)
      go_ret
      exact ⟨ret_int (by rw [F.out]; decide +kernel), rfl⟩
  · obtain rfl | rfl | rfl | rfl | rfl | rfl | rfl | rfl | rfl | rfl | rfl : m = 1 ∨ m = 3 ∨ m = 4 ∨ m = 5 ∨ m = 6 ∨ m = 7 ∨ m = 8 ∨ m = 9 ∨ m = 10 ∨ m = 11 ∨ m = 12 := by omega
    all_goals
      clear h2 hm hm'
      go_enter Try.func55, Try.ntmps55
      go_wp2_with (fail)
      go_ret
      exact ⟨ret_int (by unfold Cal.len; rw [if_neg (by decide)]; decide +kernel), rfl⟩

theorem floorR_any (n d : Int) (w : World) (hd : 1 ≤ d) (hd' : d ≤ 1000000) (hn : -1000000000000000 ≤ n) (hn' : n ≤ 1000000000000000) :
    Calls Try.prog 41 #[.int .i64 n, .int .i64 d] w fun e w' => e = .returned (.int .i64 (n / d)) ∧ w = w' := by
  have B := ediv_bd n d 1000000000000000 hd hn hn' (by omega)
  have hq : n.tdiv d * d + n.tmod d = n := Int.tdiv_mul_add_tmod n d
  have hr : n.tmod d < d ∧ -d < n.tmod d := ⟨Int.tmod_lt_of_pos _ (by omega), by rw [tmod_if]; have := Int.emod_nonneg n (b := d) (by omega); have := Int.emod_lt_of_pos (-n) (b := d) (by omega); split <;> omega⟩
  have F1 := floor_fact n d hd
  by_cases h : n.tmod d < 0
  · have F := Lib.hid (F1.1 h)
    have B1 : -1000000000000000 ≤ n.tdiv d ∧ n.tdiv d ≤ 1000000000000001 := by have := F.out; omega
    have B2 : n < n.tdiv d * d := by omega
    have B3 : n.tdiv d * d ≤ 1000000001000000 := by omega
    clear hq F1 B
    go_enter Try.func41, Try.ntmps41
    go_wp2
    go_ret
    exact ⟨ret_int F.out, rfl⟩
  · have F := Lib.hid (F1.2 h)
    have B1 : -1000000000000000 ≤ n.tdiv d ∧ n.tdiv d ≤ 1000000000000001 := by have := F.out; omega
    have B2 : ¬ n < n.tdiv d * d := by omega
    have B3 : -1000000001000000 ≤ n.tdiv d * d := by omega
    clear hq F1 B
    go_enter Try.func41, Try.ntmps41
    go_wp2
    go_ret
    exact ⟨ret_int F.out, rfl⟩

theorem weekdayR_any (n : Int) (w : World) :
    Calls Try.prog 78 #[.int .i64 n] w fun e w' => e = .returned (.int .i64 (Cal.wd n)) ∧ w = w' := by
  have b : -6 ≤ n.tmod 7 ∧ n.tmod 7 ≤ 6 := by rw [tmod_if]; split <;> omega
  have F := Lib.hid (show n.tmod 7 = if 0 ≤ n then n % 7 else -((-n) % 7) from tmod_if n 7)
  go_enter Try.func78, Try.ntmps78
  go_wp2
  all_goals
    go_ret
    refine ⟨ret_int ?_, rfl⟩
    have := F.out
    unfold Cal.wd
    split at this <;> omega
end Go.Proofs.Ytijkadahcggmeaa
