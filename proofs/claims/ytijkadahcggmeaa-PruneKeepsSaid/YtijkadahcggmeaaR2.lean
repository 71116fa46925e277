/- What Date and Days of the document's calendar answer. -/
import Derived.Test.YtijkadahcggmeaaR1
namespace Go.Proofs.Ytijkadahcggmeaa
open Go.RowKit
theorem vint {a b : Int} (h : a = b) : Value.int .i64 a = .int .i64 b := by rw [h]
namespace Cal
theorem jan1_bd {y : Int} (h : y ≤ 1970) : 365 * (1970 - y) ≤ - jan1 y := by have := jan1_mono h; rw [jan1_1970] at this; omega
theorem jan1_bd2 {y : Int} (h : 1970 ≤ y) : 365 * (y - 1970) ≤ jan1 y := by have := jan1_mono h; rw [jan1_1970] at this; omega
theorem days_mono_nat (y m : Int) (k : Nat) (h : 1 ≤ m) (h' : m + k ≤ 12) : days y m 1 + 28 * k ≤ days y (m + k) 1 := by
  induction k with
  | zero => simp
  | succ k ih =>
    have := ih (by omega)
    have h1 := days_succ y (m + k) (by omega) (by omega)
    have h2 := len_bd y (m + k)
    have e : m + ((k + 1 : Nat) : Int) = m + k + 1 := by omega
    rw [e]; omega
theorem days_mono {y a b : Int} (h : 1 ≤ a) (h' : b ≤ 12) (hab : a ≤ b) : days y a 1 + 28 * (b - a) ≤ days y b 1 := by
  have := days_mono_nat y a (b - a).toNat h (by omega)
  have e : a + ((b - a).toNat : Int) = b := by omega
  rw [e] at this; omega
def dR (n : Int) : Int := n - days (dy n) (dm n) 1 + 1
end Cal

set_option maxHeartbeats 1000000 in
theorem dateR_any (n : Int) (w : World) (hn : -13000000 ≤ n) (hn' : n ≤ 13000000) :
    Calls Try.prog 42 #[.int .i64 n] w fun e w' => e = .returned (.tuple #[.agg #[.int .i64 (Cal.dy n), .int .i64 (Cal.dm n), .int .i64 (Cal.dR n)], .int .i64 0]) ∧ Below w.heap.size w w' := by
  have j70 := Lib.hid Cal.jan1_1970
  have dyb := Cal.date_year n
  have dmb := Cal.date_month n
  have dm12 := Cal.dm_bd n
  have hyb := Cal.dy_bd n (by omega) (by omega)
  have DM := Lib.hid dmb
  clear dmb
  go_enter Try.func42, Try.ntmps42
  go_wp2
  go_loop [0, 4] (fun a y => ∃ Y : Int, y = .int .i64 Y ∧ a = .int .i64 (n - Cal.jan1 Y) ∧ Y ≤ 1970 ∧ n - 146097 ≤ Cal.jan1 Y + 13000000 ∧ (Y = 1970 ∨ n - 146097 ≤ Cal.jan1 Y)) (fun a _ => (-(intOf a)).toNat)
  case atStart => exact ⟨1970, rfl, vint (by rw [j70.out]; omega), by omega, by rw [j70.out]; omega, .inl rfl⟩
  case round =>
    obtain ⟨Y, rfl, rfl, hY, hJ0, hJ⟩ := hrel
    have b1 := Cal.jan1_bd hY
    have hJ' : n - 146097 ≤ Cal.jan1 Y ∨ Y = 1970 := hJ.symm
    have hYlo : -60000 ≤ Y := by rcases hJ with rfl | h <;> omega
    have HJ := Lib.hid hJ'
    clear hJ hJ'
    by_cases hlt : n - Cal.jan1 Y < 0
    · have e4 := Lib.hid (Cal.jan1_400 (Y - 400))
      have hj : Cal.jan1 Y ≤ 0 := by omega
      go_wp2
      go_round
      case rel => exact ⟨Y - 400, rfl, vint (by have := e4.out; rw [Int.sub_add_cancel] at this; omega), by omega, by have := e4.out; rw [Int.sub_add_cancel] at this; omega, .inr (by have := e4.out; rw [Int.sub_add_cancel] at this; omega)⟩
      case measure => simp [intOf]; have := e4.out; omega
    · have hj2 : Cal.jan1 Y ≤ 0 := by omega
      have hge : 0 ≤ n - Cal.jan1 Y := by omega
      have hj3 : -14000000 ≤ Cal.jan1 Y := by
        rcases HJ.out with h | h
        · omega
        · rw [h, j70.out]; omega
      go_wp2
      clear b1 hJ0 HJ
      go_loop [0, 4] (fun a y => ∃ Y : Int, y = .int .i64 Y ∧ a = .int .i64 (n - Cal.jan1 Y) ∧ -60000 ≤ Y ∧ Cal.jan1 Y ≤ n ∧ -14000000 ≤ Cal.jan1 Y) (fun a _ => (intOf a).toNat)
      case atStart => exact ⟨Y, rfl, rfl, hYlo, by omega, by omega⟩
      case round =>
        obtain ⟨Z, rfl, rfl, hZlo, hZj, hZ3⟩ := hrel
        have hZhi : Z ≤ 60000 := by
          by_cases h : Z ≤ 1970
          · omega
          · have := Cal.jan1_bd2 (y := Z) (by omega); omega
        by_cases hlt2 : 146097 ≤ n - Cal.jan1 Z
        · have e4 := Lib.hid (Cal.jan1_400 Z)
          go_wp2
          go_round
          case rel => exact ⟨Z + 400, rfl, vint (by have := e4.out; omega), by omega, by have := e4.out; omega, by have := e4.out; omega⟩
          case measure => simp [intOf]; omega
        · have hzy : Z ≤ Cal.dy n := by
            by_cases h : Z ≤ Cal.dy n
            · exact h
            · have := Cal.jan1_mono (a := Cal.dy n + 1) (b := Z) (by omega); omega
          go_wp2
          go_loop [0, 4] (fun a y => ∃ Y : Int, y = .int .i64 Y ∧ a = .int .i64 (n - Cal.jan1 Y) ∧ -60000 ≤ Y ∧ Y ≤ Cal.dy n ∧ Cal.jan1 Y ≤ n ∧ -14000000 ≤ Cal.jan1 Y) (fun a _ => (intOf a).toNat)
          case atStart => exact ⟨Z, rfl, rfl, hZlo, hzy, hZj, hZ3⟩
          case round =>
            obtain ⟨X, rfl, rfl, hXlo, hXy, hXj, hX3⟩ := hrel
            have ob := Cal.ofY_bd X
            have es := Lib.hid (Cal.jan1_succ X)
            by_cases hlt3 : X < Cal.dy n
            · have hc : Cal.ofY X ≤ n - Cal.jan1 X := by have := Cal.jan1_mono (a := X + 1) (b := Cal.dy n) (by omega); have := es.out; omega
              go_wp2_with (fail)
              refine (of_any _ _).mono ?_; rintro e w' ⟨rfl, rfl⟩
              go_wp2_with (fail)
              refine (of_any _ _).mono ?_; rintro e w' ⟨rfl, rfl⟩
              go_wp2_with (fail)
              go_round
              case rel => exact ⟨X + 1, rfl, vint (by have := es.out; omega), by omega, by omega, by have := es.out; omega, by have := es.out; omega⟩
              case measure => simp [intOf]; omega
            · obtain rfl : X = Cal.dy n := by omega
              have hc : ¬ Cal.ofY (Cal.dy n) ≤ n - Cal.jan1 (Cal.dy n) := by have := es.out; omega
              have hst : Cal.jan1 (Cal.dy n) = Cal.days (Cal.dy n) 1 1 := rfl
              go_wp2_with (fail)
              refine (of_any _ _).mono ?_; rintro e w' ⟨rfl, rfl⟩
              rw [hst] at hc hXj hX3
              clear hst
              go_wp2_with (fail)
              go_loop [0, 5] (fun a y => ∃ M : Int, y = .int .i64 M ∧ a = .int .i64 (n - Cal.days (Cal.dy n) M 1) ∧ 1 ≤ M ∧ M ≤ Cal.dm n ∧ Cal.days (Cal.dy n) M 1 ≤ n ∧ -14000000 ≤ Cal.days (Cal.dy n) M 1) (fun _ m => (12 - intOf m).toNat)
              case atStart => exact ⟨1, rfl, rfl, by omega, by omega, hXj, hX3⟩
              case round =>
                obtain ⟨M, rfl, rfl, hM1, hMd, hMj, hM3⟩ := hrel
                have lb := Cal.len_bd (Cal.dy n) M
                by_cases hlt4 : M < Cal.dm n
                · have em := Lib.hid (Cal.days_succ (Cal.dy n) M hM1 (by omega))
                  have hc4 : Cal.len (Cal.dy n) M ≤ n - Cal.days (Cal.dy n) M 1 := by
                    have := Cal.days_mono (y := Cal.dy n) (a := M + 1) (b := Cal.dm n) (by omega) (by omega) (by omega)
                    have := em.out; have := DM.out.1; omega
                  go_wp2_with (fail)
                  refine (length_any _ _ _ (by omega) (by omega)).mono ?_; rintro e w' ⟨rfl, rfl⟩
                  go_wp2_with (fail)
                  refine (length_any _ _ _ (by omega) (by omega)).mono ?_; rintro e w' ⟨rfl, rfl⟩
                  go_wp2_with (fail)
                  go_round
                  case rel => exact ⟨M + 1, rfl, vint (by have := em.out; omega), by omega, by omega, by have := em.out; omega, by have := em.out; omega⟩
                  case measure => simp [intOf]; omega
                · obtain rfl : M = Cal.dm n := by omega
                  have hc4 : ¬ Cal.len (Cal.dy n) (Cal.dm n) ≤ n - Cal.days (Cal.dy n) (Cal.dm n) 1 := by have h := DM.out.2; unfold Cal.mend at h; omega
                  have y1 : -40000 ≤ Cal.dy n := by
                    by_cases h : Cal.dy n ≤ 1970
                    · have := Cal.jan1_bd h; have := es.out; omega
                    · omega
                  have y2 : Cal.dy n ≤ 40000 := by
                    by_cases h : Cal.dy n ≤ 1970
                    · omega
                    · have := Cal.jan1_bd2 (y := Cal.dy n) (by omega); omega
                  go_wp2_with (fail)
                  refine (length_any _ _ _ (by omega) (by omega)).mono ?_; rintro e w' ⟨rfl, rfl⟩
                  go_wp2_with (fail)
                  refine bodyPost_ret (v := .tuple #[.agg #[.int .i64 (Cal.dy n), .int .i64 (Cal.dm n), .int .i64 (Cal.dR n)], .int .i64 0]) (by simp [results, Try.results42, go_sem, Cal.dR]) rfl ⟨rfl, ?_⟩
                  exact (Below.refl _ _).alloc (Nat.le_refl _) _
end Go.Proofs.Ytijkadahcggmeaa
