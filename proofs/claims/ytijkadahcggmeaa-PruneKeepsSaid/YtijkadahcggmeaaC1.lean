/- Bounds of the calendar's plain arithmetic. -/
import Derived.Test.YtijkadahcggmeaaC0
namespace Go.Proofs.Ytijkadahcggmeaa
namespace Cal
theorem dy_bd (n : Int) (h : -20000000 ≤ n) (h' : n ≤ 20000000) : -60000 ≤ dy n ∧ dy n ≤ 60000 := by have := yoe_bd n; unfold dy era; omega
theorem days_bd (y : Int) (h : -60000 ≤ y) (h' : y ≤ 60000) : -30000000 ≤ days y 1 1 ∧ days y 1 1 ≤ 30000000 := by unfold days; simp only; omega
/-- The day of the year, from January on, of the days from March on. -/
theorem first_le (n : Int) : 0 ≤ thu n - days (wy n) 1 1 := by
  unfold wy
  generalize thu n = t
  have hd := doe_bd t
  have hY := doy_bd t
  have hM := mp_bd t
  have he : t + 719468 = era t * 146097 + doe t := by unfold doe; omega
  have hdoy : doe t = 365 * yoe t + yoe t / 4 - yoe t / 100 + doy t := by unfold doy; omega
  have hy := yoe_bd t
  unfold days dy
  have hm : mp t = (5 * doy t + 2) / 153 := rfl
  by_cases h : dm t ≤ 2
  · simp only [h, if_true]
    unfold dm at h
    rw [if_pos (by omega)]
    have a1 : (era t * 400 + yoe t + 1 - 1) / 400 = era t := by omega
    have a2 : era t * 400 + yoe t + 1 - 1 - era t * 400 = yoe t := by omega
    have h10 : 10 ≤ mp t := by clear hm; omega
    have a3 : 306 ≤ doy t := by rw [hm] at h10; clear hdoy he; omega
    simp only [a1, a2]; omega
  · simp only [h, if_false]
    unfold dm at h
    rw [if_pos (by omega)]
    by_cases h0 : yoe t = 0
    · have a1 : (era t * 400 + yoe t - 1) / 400 = era t - 1 := by omega
      simp only [a1]; omega
    · have a1 : (era t * 400 + yoe t - 1) / 400 = era t := by omega
      have a2 : era t * 400 + yoe t - 1 - era t * 400 = yoe t - 1 := by omega
      simp only [a1, a2]; omega
theorem wd_bd (n : Int) : 1 ≤ wd n ∧ wd n ≤ 7 := by unfold wd; omega
theorem wy_bd (n : Int) (h : -12800000 ≤ n) (h' : n ≤ 12800000) : -60000 ≤ wy n ∧ wy n ≤ 60000 := by
  have := wd_bd n; exact dy_bd _ (by unfold thu; omega) (by unfold thu; omega)
theorem wn_bd (n : Int) (h : -12800000 ≤ n) (h' : n ≤ 12800000) : -10000000 ≤ wn n ∧ wn n ≤ 10000000 := by
  have := wd_bd n; have a := wy_bd n h h'; have b := days_bd _ a.1 a.2
  have c : thu n = n + 4 - wd n := rfl
  unfold wn; omega
end Cal
end Go.Proofs.Ytijkadahcggmeaa
