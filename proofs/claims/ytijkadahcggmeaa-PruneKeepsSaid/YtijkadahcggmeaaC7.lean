/- The calendar that counts year by year and month by month is the same calendar: no program here. -/
import Derived.Test.YtijkadahcggmeaaC1
namespace Go.Proofs.Ytijkadahcggmeaa
namespace Cal
def leap (y : Int) : Bool := decide (y % 400 = 0 ∨ (y % 4 = 0 ∧ y % 100 ≠ 0))
def ofY (y : Int) : Int := if y % 400 = 0 ∨ (y % 4 = 0 ∧ y % 100 ≠ 0) then 366 else 365
def len (y m : Int) : Int :=
  if m = 2 then (if y % 400 = 0 ∨ (y % 4 = 0 ∧ y % 100 ≠ 0) then 29 else 28)
  else if m = 4 ∨ m = 6 ∨ m = 9 ∨ m = 11 then 30 else 31
def jan1 (y : Int) : Int := days y 1 1
theorem jan1_eq (y : Int) : jan1 y = (y - 1) / 400 * 146097 + ((y - 1) - (y - 1) / 400 * 400) * 365 + ((y - 1) - (y - 1) / 400 * 400) / 4 - ((y - 1) - (y - 1) / 400 * 400) / 100 + 306 - 719468 := by
  unfold jan1 days; simp only [show (1 : Int) ≤ 2 by decide, if_true]; omega
theorem jan1_succ (y : Int) : jan1 (y + 1) = jan1 y + ofY y := by
  rw [jan1_eq, jan1_eq]; unfold ofY
  have e : y + 1 - 1 = y := by omega
  rw [e]
  by_cases h : y % 400 = 0
  · rw [if_pos (.inl h)]
    obtain ⟨q, rfl⟩ : ∃ q, y = q * 400 := ⟨y / 400, by omega⟩
    have e1 : q * 400 / 400 = q := by omega
    have e2 : (q * 400 - 1) / 400 = q - 1 := by omega
    rw [e1, e2]; omega
  · have e2 : (y - 1) / 400 = y / 400 := by omega
    rw [e2]
    obtain ⟨q, r, rfl, h1, h2⟩ : ∃ q r, y = q * 400 + r ∧ 1 ≤ r ∧ r ≤ 399 := ⟨y / 400, y % 400, by omega, by omega, by omega⟩
    have e1 : (q * 400 + r) / 400 = q := by omega
    rw [e1]
    have e3 : q * 400 + r - q * 400 = r := by omega
    have e4 : q * 400 + r - 1 - q * 400 = r - 1 := by omega
    rw [e3, e4]
    by_cases h4 : r % 4 = 0
    · by_cases h5 : r % 100 = 0
      · rw [if_neg (by omega)]; omega
      · rw [if_pos (by omega)]; omega
    · rw [if_neg (by omega)]; omega
theorem jan1_400 (y : Int) : jan1 (y + 400) = jan1 y + 146097 := by
  rw [jan1_eq, jan1_eq]
  have e : (y + 400 - 1) / 400 = (y - 1) / 400 + 1 := by omega
  rw [e]
  have e3 : y + 400 - 1 - ((y - 1) / 400 + 1) * 400 = y - 1 - (y - 1) / 400 * 400 := by omega
  rw [e3]; omega
theorem jan1_1970 : jan1 1970 = 0 := by decide
theorem ofY_bd (y : Int) : 365 ≤ ofY y ∧ ofY y ≤ 366 := by unfold ofY; split <;> omega
theorem jan1_mono_nat (y : Int) (k : Nat) : jan1 y + 365 * k ≤ jan1 (y + k) := by
  induction k with
  | zero => simp
  | succ k ih =>
    have := jan1_succ (y + k)
    have := ofY_bd (y + k)
    have e : y + ((k + 1 : Nat) : Int) = y + k + 1 := by omega
    rw [e]; omega
theorem jan1_mono {a b : Int} (h : a ≤ b) : jan1 a + 365 * (b - a) ≤ jan1 b := by
  have := jan1_mono_nat a (b - a).toNat
  have e : a + ((b - a).toNat : Int) = b := by omega
  rw [e] at this; omega
/-- A year is known by its days. -/
theorem year_uniq {a b n : Int} (h1 : jan1 a ≤ n) (h2 : n < jan1 (a + 1)) (h3 : jan1 b ≤ n) (h4 : n < jan1 (b + 1)) : a = b := by
  rcases Int.lt_trichotomy a b with h | h | h
  · have := jan1_mono (a := a + 1) (b := b) (by omega); omega
  · exact h
  · have := jan1_mono (a := b + 1) (b := a) (by omega); omega

def yoeOk (d : Nat) : Bool :=
  Nat.ble (365 * yoeN d + yoeN d / 4 - yoeN d / 100) d && Nat.ble (d + 1) (365 * (yoeN d + 1) + (yoeN d + 1) / 4 - (yoeN d + 1) / 100 + (yoeN d + 1) / 400)
theorem yoeOk_all : chk yoeOk = true := by decide +kernel
theorem yoe_ok (n : Int) : 365 * yoe n + yoe n / 4 - yoe n / 100 ≤ doe n ∧ doe n < 365 * (yoe n + 1) + (yoe n + 1) / 4 - (yoe n + 1) / 100 + (yoe n + 1) / 400 := by
  have hd := doe_bd n
  have h := chk_all yoeOk_all (doe n).toNat (by omega)
  have hy : yoe n = (yoeN (doe n).toNat : Int) := by
    unfold yoe yoeN
    obtain ⟨d, e⟩ : ∃ d : Nat, doe n = d := ⟨(doe n).toNat, by omega⟩
    rw [e]; simp only [Int.toNat_natCast]; omega
  simp only [yoeOk, Bool.and_eq_true, Nat.ble_eq] at h
  rw [hy]
  generalize yoeN (doe n).toNat = y at h
  generalize hz : y + 1 = z at h
  have e : (y : Int) + 1 = (z : Int) := by omega
  rw [e]
  omega

theorem days_lo (y m : Int) (h : 1 ≤ m) (h' : m ≤ 2) : days y m 1 = jan1 y + 31 * (m - 1) := by
  unfold jan1 days
  obtain rfl | rfl : m = 1 ∨ m = 2 := by omega
  · simp
  · simp only [show (2 : Int) ≤ 2 by decide, show (1 : Int) ≤ 2 by decide, if_true]; omega
theorem days_hi (y m : Int) (h : 3 ≤ m) (h' : m ≤ 12) : days y m 1 = jan1 (y + 1) - 306 + (153 * (m - 3) + 2) / 5 := by
  rw [jan1_eq]; unfold days
  rw [if_neg (by omega)]
  have e : y + 1 - 1 = y := by omega
  have e2 : (m + 9) % 12 = m - 3 := by omega
  rw [e]; simp only [e2]; omega
theorem days_succ (y m : Int) (h : 1 ≤ m) (h' : m ≤ 11) : days y (m + 1) 1 = days y m 1 + len y m := by
  have hs := jan1_succ y
  unfold ofY at hs
  obtain rfl | rfl | h3 : m = 1 ∨ m = 2 ∨ 3 ≤ m := by omega
  · rw [days_lo _ _ (by omega) (by omega), days_lo _ _ (by omega) (by omega)]; simp [len]
  · rw [days_hi _ _ (by omega) (by omega), days_lo _ _ (by omega) (by omega)]
    unfold len; rw [if_pos rfl]
    split at hs
    · rename_i h; rw [if_pos h]; omega
    · rename_i h; rw [if_neg h]; omega
  · rw [days_hi _ _ (by omega) (by omega), days_hi _ _ (by omega) (by omega)]
    unfold len; rw [if_neg (by omega)]
    obtain rfl | rfl | rfl | rfl | rfl | rfl | rfl | rfl | rfl : m = 3 ∨ m = 4 ∨ m = 5 ∨ m = 6 ∨ m = 7 ∨ m = 8 ∨ m = 9 ∨ m = 10 ∨ m = 11 := by omega
    all_goals (simp; try omega)
theorem dm_iff (d : Int) (h : 0 ≤ d) (h' : d ≤ 365) : (((5 * d + 2) / 153 + 2) % 12 + 1 ≤ 2) ↔ 306 ≤ d := by
  have a : 0 ≤ (5 * d + 2) / 153 ∧ (5 * d + 2) / 153 ≤ 11 := by omega
  by_cases g : 306 ≤ d
  · have : 10 ≤ (5 * d + 2) / 153 := by omega
    generalize (5 * d + 2) / 153 = q at *; omega
  · have : (5 * d + 2) / 153 ≤ 9 := by omega
    generalize (5 * d + 2) / 153 = q at *; omega
theorem mp_in (d : Int) : (153 * ((5 * d + 2) / 153) + 2) / 5 ≤ d ∧ d < (153 * ((5 * d + 2) / 153 + 1) + 2) / 5 := by omega
theorem key_year (e r d n : Int) (h : n + 719468 - e * 146097 = 365 * r + r / 4 - r / 100 + d) (h0 : 0 ≤ r) (h1 : r ≤ 399) : jan1 (e * 400 + r + 1) = n - d + 306 := by
  rw [jan1_eq]
  have e1 : (e * 400 + r + 1 - 1) / 400 = e := by omega
  rw [e1]
  have e2 : e * 400 + r + 1 - 1 - e * 400 = r := by omega
  rw [e2]; omega
theorem feb_len (e r x : Int) (h1 : x < 365 * (r + 1) + (r + 1) / 4 - (r + 1) / 100 + (r + 1) / 400) (h2 : x = 365 * r + r / 4 - r / 100 + 365) (h3 : 0 ≤ r) (h4 : r ≤ 399) : len (e * 400 + r + 1) 2 = 29 := by
  unfold len; rw [if_pos rfl]
  refine if_pos ?_
  have hy4 : (r + 1) % 400 = 0 ∨ ((r + 1) % 4 = 0 ∧ (r + 1) % 100 ≠ 0) := by omega
  clear h1 h2; omega
theorem days_last (y : Int) : days y 12 1 + 31 = jan1 (y + 1) := by rw [days_hi _ _ (by omega) (by omega)]; omega
theorem len_bd (y m : Int) : 28 ≤ len y m ∧ len y m ≤ 31 := by unfold len; split <;> split <;> omega
/-- First day behind a month. -/
def mend (y m : Int) : Int := days y m 1 + len y m

theorem date_year (n : Int) : jan1 (dy n) ≤ n ∧ n < jan1 (dy n + 1) := by
  have a2 := yoe_bd n; have a4 := doy_bd n
  have hc : dm n ≤ 2 ↔ 306 ≤ doy n := dm_iff (doy n) a4.1 a4.2
  have key : jan1 (era n * 400 + yoe n + 1) = n - doy n + 306 := key_year _ _ _ _ (by unfold doy doe; omega) a2.1 a2.2
  unfold dy
  by_cases h : dm n ≤ 2
  · rw [if_pos h, key]
    have := hc.1 h
    have h1 := jan1_succ (era n * 400 + yoe n + 1)
    have h2 := ofY_bd (era n * 400 + yoe n + 1)
    generalize ofY (era n * 400 + yoe n + 1) = o at *
    rw [h1, key]
    clear h1 key hc; omega
  · rw [if_neg h, key]
    have : ¬ 306 ≤ doy n := fun g => h (hc.2 g)
    have h1 := jan1_succ (era n * 400 + yoe n)
    have h2 := ofY_bd (era n * 400 + yoe n)
    rw [key] at h1
    generalize ofY (era n * 400 + yoe n) = o at *
    generalize jan1 (era n * 400 + yoe n) = j at *
    clear hc; omega

theorem date_month (n : Int) : days (dy n) (dm n) 1 ≤ n ∧ n < mend (dy n) (dm n) := by
  have a2 := yoe_bd n; have a3 := yoe_ok n; have a4 := doy_bd n
  have hdoy : doe n = 365 * yoe n + yoe n / 4 - yoe n / 100 + doy n := by unfold doy; omega
  have hmp : mp n = (5 * doy n + 2) / 153 := rfl
  have hdm : dm n = (mp n + 2) % 12 + 1 := rfl
  have hin := mp_in (doy n)
  rw [← hmp] at hin
  have key : jan1 (era n * 400 + yoe n + 1) = n - doy n + 306 := key_year _ _ _ _ (by unfold doy doe; omega) a2.1 a2.2
  have hmp2 := mp_bd n
  unfold mend
  by_cases h : dm n ≤ 2
  · have e : dy n = era n * 400 + yoe n + 1 := by unfold dy; rw [if_pos h]
    have h12 : mp n = 10 ∧ dm n = 1 ∨ mp n = 11 ∧ dm n = 2 := by clear hin key a3 hdoy hmp; omega
    rw [e]
    rcases h12 with ⟨h1, h2⟩ | ⟨h1, h2⟩
    · rw [h2, days_lo _ _ (by omega) (by omega), key]
      have : len (era n * 400 + yoe n + 1) 1 = 31 := by simp [len]
      rw [this, ]; rw [h1] at hin; clear key a3 hdoy hmp; omega
    · rw [h2, days_lo _ _ (by omega) (by omega), key]
      have hl := len_bd (era n * 400 + yoe n + 1) 2
      rw [h1] at hin
      by_cases h365 : doy n = 365
      · have h29 := feb_len (era n) (yoe n) (doe n) a3.2 (by rw [hdoy, h365]) a2.1 a2.2
        rw [h29, h365]; omega
      · clear key a3 hdoy hmp; generalize len (era n * 400 + yoe n + 1) 2 = l at *; omega
  · have e : dy n = era n * 400 + yoe n := by unfold dy; rw [if_neg h]
    have hd3 : dm n = mp n + 3 ∧ mp n ≤ 9 := by clear hin key a3 hdoy hmp; omega
    obtain ⟨hd3, hm9⟩ := hd3
    rw [e, hd3, days_hi _ _ (by omega) (by omega), key]
    have e3 : mp n + 3 - 3 = mp n := by omega
    rw [e3]
    have h5 : len (era n * 400 + yoe n) (mp n + 3) = (153 * (mp n + 1) + 2) / 5 - (153 * mp n + 2) / 5 ∨ mp n = 9 ∧ len (era n * 400 + yoe n) (mp n + 3) = 31 := by
      unfold len; rw [if_neg (by omega)]
      clear hin key a3 hdoy hmp
      obtain h | h | h | h | h | h | h | h | h | h : mp n = 0 ∨ mp n = 1 ∨ mp n = 2 ∨ mp n = 3 ∨ mp n = 4 ∨ mp n = 5 ∨ mp n = 6 ∨ mp n = 7 ∨ mp n = 8 ∨ mp n = 9 := by omega
      all_goals (rw [h]; first | exact .inl (by decide) | exact .inr ⟨rfl, by decide⟩)
    generalize len (era n * 400 + yoe n) (mp n + 3) = l at *
    clear key a3 hdoy hmp a2
    rcases h5 with h5 | ⟨h5, h6⟩
    · rw [h5]; omega
    · rw [h6, h5]; rw [h5] at hin; omega

/-! weeks -/
/-- The Monday of the week 1 of a year. -/
def fst (y : Int) : Int := jan1 y + 3 - wd (jan1 y + 3) + 1
theorem fst_le (y n : Int) : fst y ≤ n ↔ jan1 y ≤ thu n := by unfold fst thu wd; omega
theorem week_num (y n : Int) (h : jan1 y ≤ thu n) : (n - fst y) / 7 + 1 = (thu n - jan1 y) / 7 + 1 := by have h1 := h; unfold fst thu wd at *; omega
theorem wy_le (n : Int) : wy n ≤ dy n + 1 := by
  have h1 := (date_year n).2
  have h2 := (date_year (thu n)).1
  have h3 : thu n ≤ n + 3 := by unfold thu wd; omega
  by_cases _h : wy n ≤ dy n + 1
  · assumption
  · exfalso
    have := jan1_mono (a := dy n + 2) (b := wy n) (by omega)
    have := jan1_mono (a := dy n + 1) (b := dy n + 2) (by omega)
    unfold wy at *
    omega
end Cal
end Go.Proofs.Ytijkadahcggmeaa
