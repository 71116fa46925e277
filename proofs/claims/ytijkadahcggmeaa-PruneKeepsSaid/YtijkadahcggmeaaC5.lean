/- The buckets of times rise with the times. -/
import Derived.Test.YtijkadahcggmeaaC1
namespace Go.Proofs.Ytijkadahcggmeaa
namespace Cal
def ym (n : Int) : Int := 100 * dy n + dm n
theorem ym_eq (n : Int) : ym n = if mp n < 10 then 100 * (400 * era n + yoe n) + mp n + 3 else 100 * (400 * era n + yoe n + 1) + mp n - 9 := by
  have hM := mp_bd n
  have hdm : dm n = (mp n + 2) % 12 + 1 := rfl
  unfold ym dy
  by_cases h : mp n < 10
  · rw [if_pos h, if_neg (by omega)]; omega
  · rw [if_neg h, if_pos (by omega)]; omega
theorem num_mono (d : Int) (h0 : 0 ≤ d) (h : d < 146096) : d - d / 1460 + d / 36524 - d / 146096 ≤ d + 1 - (d + 1) / 1460 + (d + 1) / 36524 - (d + 1) / 146096 := by
  have a1 : (d + 1) / 1460 ≤ d / 1460 + 1 := by omega
  have a2 : d / 36524 ≤ (d + 1) / 36524 := by omega
  have a3 : d / 146096 = 0 := by omega
  by_cases e : d + 1 = 146096
  · have : d = 146095 := by omega
    subst this; decide
  · have a4 : (d + 1) / 146096 = 0 := by omega
    rw [a3, a4]; clear h0 h a3 a4 e; omega
theorem era_last (n : Int) (h : doe n = 146096) : era (n + 1) = era n + 1 := by unfold doe era at *; omega
theorem era_same (n : Int) (h : doe n ≠ 146096) : era (n + 1) = era n := by have := doe_bd n; unfold doe era at *; omega
theorem doe_same (n : Int) (h : doe n ≠ 146096) : doe (n + 1) = doe n + 1 := by unfold doe; rw [era_same n h]; omega
theorem yoe_succ (n : Int) (h : doe n ≠ 146096) : yoe n ≤ yoe (n + 1) := by
  have hd := doe_bd n
  have := num_mono (doe n) hd.1 (by omega)
  unfold yoe
  rw [doe_same n h]
  exact Int.ediv_le_ediv (by omega) this
theorem doy_same (n : Int) (h : doe n ≠ 146096) (hy : yoe (n + 1) = yoe n) : doy (n + 1) = doy n + 1 := by
  unfold doy; rw [doe_same n h, hy]; omega
theorem mp_mono (n : Int) (h : doy (n + 1) = doy n + 1) : mp n ≤ mp (n + 1) := by unfold mp; rw [h]; omega
theorem ite_le {a b c d : Int} {p q : Prop} [Decidable p] [Decidable q] (h1 : p → q → a ≤ c) (h2 : p → ¬ q → a ≤ d) (h3 : ¬ p → q → b ≤ c) (h4 : ¬ p → ¬ q → b ≤ d) : (if p then a else b) ≤ if q then c else d := by
  split <;> split
  · exact h1 ‹_› ‹_›
  · exact h2 ‹_› ‹_›
  · exact h3 ‹_› ‹_›
  · exact h4 ‹_› ‹_›
theorem ym_succ (n : Int) : ym n ≤ ym (n + 1) := by
  have hm := mp_bd n
  have hm' := mp_bd (n + 1)
  have hy := yoe_bd n
  have hy' := yoe_bd (n + 1)
  rw [ym_eq, ym_eq]
  by_cases hl : doe n = 146096
  · rw [era_last n hl]
    clear hl
    generalize mp n = a at *
    generalize mp (n + 1) = b at *
    generalize yoe n = c at *
    generalize yoe (n + 1) = d at *
    generalize era n = f at *
    refine ite_le ?_ ?_ ?_ ?_ <;> intro _ _ <;> omega
  · have hmono := yoe_succ n hl
    rw [era_same n hl]
    by_cases he : yoe (n + 1) = yoe n
    · have e4 := mp_mono n (doy_same n hl he)
      rw [he]
      clear hl he hmono hy'
      generalize mp n = a at *
      generalize mp (n + 1) = b at *
      generalize yoe n = c at *
      generalize era n = f at *
      refine ite_le ?_ ?_ ?_ ?_ <;> intro _ _ <;> omega
    · clear hl
      generalize mp n = a at *
      generalize mp (n + 1) = b at *
      generalize yoe n = c at *
      generalize yoe (n + 1) = d at *
      generalize era n = f at *
      refine ite_le ?_ ?_ ?_ ?_ <;> intro _ _ <;> omega
theorem mono_of_succ (f : Int → Int) (h : ∀ n, f n ≤ f (n + 1)) (a b : Int) (hab : a ≤ b) : f a ≤ f b := by
  obtain ⟨k, rfl⟩ : ∃ k : Nat, b = a + k := ⟨(b - a).toNat, by omega⟩
  clear hab
  induction k with
  | zero => simp
  | succ k ih => have := h (a + k); rw [show a + ((k + 1 : Nat) : Int) = a + k + 1 by omega]; omega
theorem ym_mono (a b : Int) (h : a ≤ b) : ym a ≤ ym b := mono_of_succ ym ym_succ a b h
theorem dy_mono (a b : Int) (h : a ≤ b) : dy a ≤ dy b := by
  have h1 := ym_mono a b h
  have h2 := dm_bd a
  have h3 := dm_bd b
  unfold ym at h1; omega
/-- No day lies further than 365 days behind its January 1st. -/
theorem first_le2 (t : Int) : t - days (dy t) 1 1 ≤ 365 := by
  have hd := doe_bd t
  have hY := doy_bd t
  have hM := mp_bd t
  have he : t + 719468 = era t * 146097 + doe t := by unfold doe; omega
  have hdoy : doe t = 365 * yoe t + yoe t / 4 - yoe t / 100 + doy t := by unfold doy; omega
  have hy := yoe_bd t
  have hm : mp t = (5 * doy t + 2) / 153 := rfl
  unfold days dy
  by_cases h : dm t ≤ 2
  · simp only [h, if_true]
    unfold dm at h
    rw [if_pos (by omega)]
    have a1 : (era t * 400 + yoe t + 1 - 1) / 400 = era t := by omega
    have a2 : era t * 400 + yoe t + 1 - 1 - era t * 400 = yoe t := by omega
    simp only [a1, a2]; omega
  · simp only [h, if_false]
    unfold dm at h
    rw [if_pos (by omega)]
    have h9 : mp t ≤ 9 := by clear hm; omega
    have a3 : doy t ≤ 305 := by rw [hm] at h9; clear hdoy he; omega
    by_cases h0 : yoe t = 0
    · have a1 : (era t * 400 + yoe t - 1) / 400 = era t - 1 := by omega
      simp only [a1]; omega
    · have a1 : (era t * 400 + yoe t - 1) / 400 = era t := by omega
      have a2 : era t * 400 + yoe t - 1 - era t * 400 = yoe t - 1 := by omega
      simp only [a1, a2]; omega
def wk (n : Int) : Int := 100 * wy n + wn n
theorem wk_mono (a b : Int) (h : a ≤ b) : wk a ≤ wk b := by
  have ta : thu a ≤ thu b := by unfold thu wd; omega
  have h1 := dy_mono _ _ ta
  have f1 : 0 ≤ thu a - days (dy (thu a)) 1 1 := first_le a
  have f2 : 0 ≤ thu b - days (dy (thu b)) 1 1 := first_le b
  have g1 := first_le2 (thu a)
  have ea : wk a = 100 * dy (thu a) + ((thu a - days (dy (thu a)) 1 1) / 7 + 1) := rfl
  have eb : wk b = 100 * dy (thu b) + ((thu b - days (dy (thu b)) 1 1) / 7 + 1) := rfl
  rw [ea, eb]
  by_cases e : dy (thu a) = dy (thu b)
  · rw [e] at *; omega
  · omega
theorem bkt_mono (k a b : Int) (h : a ≤ b) : bkt k a ≤ bkt k b := by
  have h1 : a / 86400 ≤ b / 86400 := by omega
  unfold bkt
  split
  · omega
  · split
    · omega
    · split
      · exact wk_mono _ _ h1
      · split
        · exact ym_mono _ _ h1
        · exact dy_mono _ _ h1
end Cal
end Go.Proofs.Ytijkadahcggmeaa
