/- The calendar as plain arithmetic on integers: no program here. -/
import Derived.KernelRfl
namespace Go.Proofs.Ytijkadahcggmeaa
/-! the calendar, as plain arithmetic -/
namespace Cal
def days (y m d : Int) : Int :=
  let y' := if m ≤ 2 then y - 1 else y
  let era := y' / 400
  let yr := y' - era * 400
  let mo := (m + 9) % 12
  let dy := (153 * mo + 2) / 5 + d - 1
  era * 146097 + yr * 365 + yr / 4 - yr / 100 + dy - 719468
def era (n : Int) : Int := (n + 719468) / 146097
def doe (n : Int) : Int := n + 719468 - era n * 146097
def yoe (n : Int) : Int := (doe n - doe n / 1460 + doe n / 36524 - doe n / 146096) / 365
def doy (n : Int) : Int := doe n - (365 * yoe n + yoe n / 4 - yoe n / 100)
def mp (n : Int) : Int := (5 * doy n + 2) / 153
def dm (n : Int) : Int := (mp n + 2) % 12 + 1
def dd (n : Int) : Int := doy n - (153 * mp n + 2) / 5 + 1
def dy (n : Int) : Int := if dm n ≤ 2 then era n * 400 + yoe n + 1 else era n * 400 + yoe n
def wd (n : Int) : Int := (n + 3) % 7 + 1
def thu (n : Int) : Int := n + 4 - wd n
def wy (n : Int) : Int := dy (thu n)
def wn (n : Int) : Int := (thu n - days (wy n) 1 1) / 7 + 1
def bkt (k t : Int) : Int :=
  if k = 1 then t / 3600 else if k = 2 then t / 86400 else if k = 3 then 100 * wy (t / 86400) + wn (t / 86400)
  else if k = 4 then 100 * dy (t / 86400) + dm (t / 86400) else dy (t / 86400)

theorem doe_bd (n : Int) : 0 ≤ doe n ∧ doe n < 146097 := by unfold doe era; omega
theorem yoe_bd (n : Int) : 0 ≤ yoe n ∧ yoe n ≤ 399 := by have := doe_bd n; unfold yoe; omega
def chk (f : Nat → Bool) : Bool := (List.range 383).all fun a => (List.range 382).all fun b => f (a * 382 + b)
theorem chk_all {f : Nat → Bool} (h : chk f = true) (n : Nat) (hn : n < 146097) : f n = true := by
  unfold chk at h
  rw [List.all_eq_true] at h
  have h1 := h (n / 382) (List.mem_range.2 (by omega))
  rw [List.all_eq_true] at h1
  have h2 := h1 (n % 382) (List.mem_range.2 (by omega))
  have e : n / 382 * 382 + n % 382 = n := by omega
  rwa [e] at h2
def yoeN (d : Nat) : Nat := (d - d / 1460 + d / 36524 - d / 146096) / 365
def doyOk (d : Nat) : Bool := Nat.ble (365 * yoeN d + yoeN d / 4 - yoeN d / 100) d && Nat.ble d (365 * yoeN d + yoeN d / 4 - yoeN d / 100 + 365)
theorem doyOk_all : chk doyOk = true := by decide +kernel
theorem doy_bd (n : Int) : 0 ≤ doy n ∧ doy n ≤ 365 := by
  have hd := doe_bd n
  have h := chk_all doyOk_all (doe n).toNat (by omega)
  have hy : yoe n = (yoeN (doe n).toNat : Int) := by
    unfold yoe yoeN
    obtain ⟨d, e⟩ : ∃ d : Nat, doe n = d := ⟨(doe n).toNat, by omega⟩
    rw [e]; simp only [Int.toNat_natCast]; omega
  simp only [doyOk, Bool.and_eq_true, Nat.ble_eq] at h
  unfold doy; rw [hy]
  generalize yoeN (doe n).toNat = y at h
  omega
theorem mp_bd (n : Int) : 0 ≤ mp n ∧ mp n ≤ 11 := by have := doy_bd n; unfold mp; omega
theorem dm_bd (n : Int) : 1 ≤ dm n ∧ dm n ≤ 12 := by unfold dm; omega
theorem dd_bd (n : Int) : -10 ≤ dd n ∧ dd n ≤ 400 := by have := doy_bd n; unfold dd mp; omega
end Cal

theorem tdiv_if (n d : Int) : n.tdiv d = if 0 ≤ n then n / d else -((-n) / d) := by
  split
  · rename_i h; exact Int.tdiv_eq_ediv_of_nonneg h
  · rename_i h
    have : (-n).tdiv d = (-n) / d := Int.tdiv_eq_ediv_of_nonneg (by omega)
    rw [Int.neg_tdiv] at this; omega
theorem tmod_if (n d : Int) : n.tmod d = if 0 ≤ n then n % d else -((-n) % d) := by
  split
  · rename_i h; exact Int.tmod_eq_emod_of_nonneg h
  · rename_i h
    have : (-n).tmod d = (-n) % d := Int.tmod_eq_emod_of_nonneg (by omega)
    rw [Int.neg_tmod] at this; omega

theorem ediv_bd (n d B : Int) (hd : 1 ≤ d) (h0 : -B ≤ n) (h1 : n ≤ B) (hB : 0 ≤ B) : -B ≤ n / d ∧ n / d ≤ B := by
  constructor
  · have : (-B) / 1 ≤ n / d := by
      rw [Int.ediv_one]
      rw [Int.le_ediv_iff_mul_le (by omega)]
      have : B * 1 ≤ B * d := Int.mul_le_mul_of_nonneg_left hd hB
      have e : -B * d = -(B * d) := Int.neg_mul ..
      omega
    simpa using this
  · by_cases h : 0 ≤ n
    · have := Int.ediv_le_self d h; omega
    · have := Int.ediv_neg_of_neg_of_pos (a := n) (b := d) (by omega) (by omega); omega

theorem floor_fact (n d : Int) (hd : 1 ≤ d) : (n.tmod d < 0 → n.tdiv d - 1 = n / d) ∧ (¬ n.tmod d < 0 → n.tdiv d = n / d) := by
  rw [tmod_if, tdiv_if]
  by_cases h : 0 ≤ n
  · simp only [h, if_true]
    have := Int.emod_nonneg n (b := d) (by omega)
    exact ⟨fun h => by omega, fun _ => trivial⟩
  · simp only [h, if_false]
    have e1 := Int.mul_ediv_add_emod (-n) d
    have e2 := Int.emod_nonneg (-n) (b := d) (by omega)
    have e3 := Int.emod_lt_of_pos (-n) (b := d) (by omega)
    refine ⟨fun h0 => ?_, fun h0 => ?_⟩
    · symm
      have : n = (d - (-n) % d) + d * (-((-n)/d) - 1) := by
        rw [Int.mul_sub, Int.mul_neg]; omega
      rw [this, Int.add_mul_ediv_left _ _ (by omega)]
      rw [← this, Int.ediv_eq_zero_of_lt (by omega) (by omega)]; omega
    · symm
      have h1 : (-n) % d = 0 := by omega
      have : n = d * (-((-n)/d)) := by
        rw [Int.mul_neg]; omega
      rw [this, Int.mul_ediv_cancel_left _ (by omega), ← this]


end Go.Proofs.Ytijkadahcggmeaa
