/- What Days (of January 4th), first, Week and Bucket of the document's calendar answer. -/
import Derived.Test.YtijkadahcggmeaaR2
import Derived.Test.YtijkadahcggmeaaA2
import Derived.StillTailTactics
import Derived.Deep.DeepFit
namespace Go.Proofs.Ytijkadahcggmeaa
open Go.RowKit
theorem flipR {f : FuncId} {args : Array Value} {w : World} {v : Value} (h : Calls Try.prog f args w fun e w' => e = .returned v ∧ w = w') :
    Calls Try.prog f args w fun e w' => e = .returned v ∧ w' = w := h.mono fun _ _ ⟨a, b⟩ => ⟨a, b.symm⟩

theorem ret2i {a b a' b' : Int} (h : a = b) (h' : a' = b') : Ending.returned (.tuple #[.int .i64 a, .int .i64 a']) = .returned (.tuple #[.int .i64 b, .int .i64 b']) := by rw [h, h']
theorem BelowdN {B : Nat} {a w : World} (h : Below B a w) (n : Nat) : Below B a (w.drewN n) := ⟨h.os, h.tape, h.output, h.size, h.block⟩
theorem len31 (x : Int) (w : World) : Calls Try.prog 55 #[.int .i64 x, .int .i64 1] w fun e w' => e = .returned (.int .i64 31) ∧ w' = w := by
  have h := length_any x 1 w (by omega) (by omega)
  have e : Cal.len x 1 = 31 := by unfold Cal.len; rw [if_neg (by decide)]; rfl
  rw [e] at h
  exact flipR h

set_option maxHeartbeats 1000000 in
theorem jan4_any (x : Int) (w : World) (hx : -40000 ≤ x) (hx' : x ≤ 40000) :
    Calls Try.prog 77 #[.agg #[.int .i64 x, .int .i64 1, .int .i64 4]] w fun e w' => e = .returned (.tuple #[.int .i64 (Cal.jan1 x + 3), .int .i64 0]) ∧ Below w.heap.size w w' := by
  have jb : -16000000 ≤ Cal.jan1 x ∧ Cal.jan1 x ≤ 16000000 := by
    have h1 : Cal.jan1 (-40000) = -15329228 := by decide
    have h2 : Cal.jan1 40000 = 13890172 := by decide
    have := Cal.jan1_mono (a := -40000) (b := x) (by omega)
    have := Cal.jan1_mono (a := x) (b := 40000) (by omega)
    omega
  have d1 : decide (x < -40000) = false := by simp; omega
  have d2 : decide (40000 < x) = false := by simp; omega
  go_enter Try.func77, Try.ntmps77
  go_wp2_with (fail)
  go_quiet ((go_at_call 55; exact Calls.quiet_of_same (len31 _ _)))
  clear d1 d2
  go_wp2_with (fail)
  go_loop [4, 5] (fun a y => ∃ Y : Int, y = .int .i64 Y ∧ a = .int .i64 (Cal.jan1 x - Cal.jan1 Y) ∧ -40000 ≤ Y ∧ Y ≤ 40000) (fun _ y => (1970 - intOf y).toNat)
  case atStart => exact ⟨x, rfl, vint (by omega), by omega, by omega⟩
  case round =>
    obtain ⟨Y, rfl, rfl, hY1, hY2⟩ := hrel
    have e4 := Lib.hid (Cal.jan1_400 Y)
    have yb : -16000000 ≤ Cal.jan1 Y ∧ Cal.jan1 Y ≤ 16000000 := by
      have h1 : Cal.jan1 (-40000) = -15329228 := by decide
      have h2 : Cal.jan1 40000 = 13890172 := by decide
      have := Cal.jan1_mono (a := -40000) (b := Y) (by omega)
      have := Cal.jan1_mono (a := Y) (b := 40000) (by omega)
      omega
    by_cases hlt : Y < 1970
    · go_wp2_with (fail)
      go_round
      case rel => exact ⟨Y + 400, rfl, vint (by have := e4.out; omega), by omega, by omega⟩
      case measure => simp [intOf]; omega
    · go_wp2_with (fail)
      go_loop [4, 5] (fun a y => ∃ Z : Int, y = .int .i64 Z ∧ a = .int .i64 (Cal.jan1 x - Cal.jan1 Z) ∧ 1970 ≤ Z ∧ Z ≤ 40000) (fun _ y => (intOf y).toNat)
      case atStart => exact ⟨Y, rfl, rfl, by omega, by omega⟩
      case round =>
        obtain ⟨Z, rfl, rfl, hZ1, hZ2⟩ := hrel
        have e5 := Lib.hid (Cal.jan1_400 (Z - 400))
        have zb : 0 ≤ Cal.jan1 Z ∧ Cal.jan1 Z ≤ 16000000 := by
          have h2 : Cal.jan1 40000 = 13890172 := by decide
          have := Cal.jan1_bd2 (y := Z) (by omega)
          have := Cal.jan1_mono (a := Z) (b := 40000) (by omega)
          omega
        by_cases hlt2 : 2370 ≤ Z
        · go_wp2_with (fail)
          go_round
          case rel => exact ⟨Z - 400, rfl, vint (by have := e5.out; rw [Int.sub_add_cancel] at this; omega), by omega, by omega⟩
          case measure => simp [intOf]; omega
        · have J70 := Lib.hid Cal.jan1_1970
          go_wp2_with (fail)
          go_loop [4, 6] (fun a v => ∃ V : Int, v = .int .i64 V ∧ a = .int .i64 (Cal.jan1 x - Cal.jan1 Z + Cal.jan1 V) ∧ 1970 ≤ V ∧ V ≤ Z) (fun _ v => (Z - intOf v).toNat)
          case atStart => exact ⟨1970, rfl, vint (by rw [J70.out]; omega), by omega, by omega⟩
          case round =>
            obtain ⟨V, rfl, rfl, hV1, hV2⟩ := hrel
            have es := Lib.hid (Cal.jan1_succ V)
            have ob := Cal.ofY_bd V
            have vb : 0 ≤ Cal.jan1 V ∧ Cal.jan1 V ≤ 16000000 := by
              have h2 : Cal.jan1 40000 = 13890172 := by decide
              have := Cal.jan1_bd2 (y := V) (by omega)
              have := Cal.jan1_mono (a := V) (b := 40000) (by omega)
              omega
            by_cases hlt3 : V < Z
            · go_wp2_with (fail)
              refine (of_any _ _).mono ?_; rintro e w' ⟨rfl, rfl⟩
              go_wp2_with (fail)
              go_round
              case rel => exact ⟨V + 1, rfl, vint (by have := es.out; omega), by omega, by omega⟩
              case measure => simp [intOf]; omega
            · obtain rfl : V = Z := by omega
              go_wp2_with (fail)
              go_loop [4, 7] (fun a m => a = .int .i64 (Cal.jan1 x) ∧ m = .int .i64 1) (fun _ _ => 0)
              case atStart => exact ⟨rfl, rfl⟩
              case round =>
                obtain ⟨rfl, rfl⟩ := hrel
                go_wp2_with (fail)
                go_ret2
                refine ⟨?_, BelowdN ((Below.refl _ _).alloc (Nat.le_refl _) _) _⟩
                exact ret2i (by omega) rfl

theorem wdR_any (n : Int) (w : World) : Calls Try.prog 78 #[.int .i64 n] w fun e w' => e = .returned (.int .i64 (Cal.wd n)) ∧ w' = w := flipR (weekdayR_any n w)

set_option maxHeartbeats 1000000 in
theorem first_any (y : Int) (w : World) (hx : -40000 ≤ y) (hx' : y ≤ 40000) :
    Calls Try.prog 56 #[.int .i64 y] w fun e w' => e = .returned (.int .i64 (Cal.fst y)) ∧ Below w.heap.size w w' := by
  have jb : -16000000 ≤ Cal.jan1 y ∧ Cal.jan1 y ≤ 16000000 := by
    have h1 : Cal.jan1 (-40000) = -15329228 := by decide
    have h2 : Cal.jan1 40000 = 13890172 := by decide
    have := Cal.jan1_mono (a := -40000) (b := y) (by omega)
    have := Cal.jan1_mono (a := y) (b := 40000) (by omega)
    omega
  have wb := Cal.wd_bd (Cal.jan1 y + 3)
  go_enter Try.func56, Try.ntmps56
  go_wp2_with (fail)
  go_loop [3, 4] (fun a b => a = .int .i64 y ∧ b = .int .i64 0) (fun _ _ => 0)
  case atStart => exact ⟨rfl, rfl⟩
  case round =>
    obtain ⟨rfl, rfl⟩ := hrel
    go_wp2_with (fail)
    go_loop [3, 4] (fun a b => a = .int .i64 y ∧ b = .int .i64 0) (fun _ _ => 0)
    case atStart => exact ⟨rfl, rfl⟩
    case round =>
      obtain ⟨rfl, rfl⟩ := hrel
      go_wp2_with (fail)
      refine (jan4_any y _ hx hx').mono ?_; rintro e w1 ⟨rfl, hb⟩
      go_wp2_with (fail)
      refine (wdR_any _ _).mono ?_; rintro e w2 ⟨rfl, rfl⟩
      go_wp2_with (fail)
      go_ret
      exact ⟨ret_int (by unfold Cal.fst; omega), hb⟩

set_option maxHeartbeats 1000000 in
theorem weekR_any (n : Int) (w : World) (hn : -12800000 ≤ n) (hn' : n ≤ 12800000) :
    Calls Try.prog 43 #[.int .i64 n] w fun e w' => e = .returned (.tuple #[.int .i64 (Cal.wy n), .int .i64 (Cal.wn n), .int .i64 0]) ∧ Below w.heap.size w w' := by
  have dyb : -36000 ≤ Cal.dy n ∧ Cal.dy n ≤ 38000 := by
    have h := Cal.date_year n
    have h1 : Cal.jan1 (-36000) ≤ -13800000 := by decide
    have h2 : 13000000 ≤ Cal.jan1 38000 := by decide
    constructor
    · by_cases g : -36000 ≤ Cal.dy n
      · exact g
      · have := Cal.jan1_mono (a := Cal.dy n + 1) (b := -36000) (by omega); omega
    · by_cases g : Cal.dy n ≤ 38000
      · exact g
      · have := Cal.jan1_mono (a := 38000) (b := Cal.dy n) (by omega); omega
  have wyb := Cal.wy_le n
  have wylo : -37000 ≤ Cal.wy n := by
    by_cases g : -37000 ≤ Cal.wy n
    · exact g
    · exfalso
      have h := (Cal.date_year (Cal.thu n)).2
      have h1 : Cal.jan1 (-37000) ≤ -14000000 := by decide
      have := Cal.jan1_mono (a := Cal.wy n + 1) (b := -37000) (by omega)
      have := Cal.wd_bd n
      unfold Cal.wy at *; unfold Cal.thu at *; omega
  have WY := Lib.hid (Cal.date_year (Cal.thu n))
  go_enter Try.func43, Try.ntmps43
  go_wp2_with (fail)
  refine (dateR_any n _ (by omega) (by omega)).mono ?_; rintro e w1 ⟨rfl, hb1⟩
  have hs1 := hb1.size
  go_wp2_with (fail)
  have hbA : Below w.heap.size w (w1.alloc (.cells #[.int .i64 (Cal.dy n), .int .i64 (Cal.dm n), .int .i64 (Cal.dR n)] 75)) := hb1.alloc hs1 _
  go_loopw [7] (fun y wr => ∃ Y : Int, y = .int .i64 Y ∧ Cal.wy n ≤ Y ∧ Y ≤ 38001 ∧ Below w.heap.size w wr) (fun y _ => (intOf y + 37000).toNat)
  case atStart => exact ⟨Cal.dy n + 1, rfl, wyb, by omega, hbA⟩
  case round =>
    obtain ⟨Y, rfl, hY1, hY2, hbr⟩ := hrel
    have hsr := hbr.size
    have fb : -17000000 ≤ Cal.fst Y ∧ Cal.fst Y ≤ 17000000 := by
      have h1 : Cal.jan1 (-40000) = -15329228 := by decide
      have h2 : Cal.jan1 40000 = 13890172 := by decide
      have := Cal.jan1_mono (a := -40000) (b := Y) (by omega)
      have := Cal.jan1_mono (a := Y) (b := 40000) (by omega)
      have := Cal.wd_bd (Cal.jan1 Y + 3)
      unfold Cal.fst; omega
    by_cases hlt : Cal.wy n < Y
    · have hc : n < Cal.fst Y := by
        have h := mt (Cal.fst_le Y n).1 (by
          have := Cal.jan1_mono (a := Cal.wy n + 1) (b := Y) (by omega)
          have := WY.out.2
          unfold Cal.wy at *; omega)
        omega
      go_wp2_with (fail)
      refine (first_any Y _ (by omega) (by omega)).mono ?_; rintro e w2 ⟨rfl, hb2⟩
      go_wp2_with (fail)
      go_roundw
      case rel => exact ⟨Y - 1, rfl, by omega, by omega, hbr.trans (hb2.mono hsr)⟩
      case measure => simp [intOf]; omega
    · obtain rfl : Y = Cal.wy n := by omega
      have hle : Cal.jan1 (Cal.wy n) ≤ Cal.thu n := WY.out.1
      have hc : Cal.fst (Cal.wy n) ≤ n := (Cal.fst_le _ _).2 hle
      have WN := Lib.hid (Cal.week_num _ _ hle)
      go_wp2_with (fail)
      refine (first_any _ _ (by omega) (by omega)).mono ?_; rintro e w2 ⟨rfl, hb2⟩
      have hsr2 := hb2.size
      go_wp2_with (fail)
      refine (first_any _ _ (by omega) (by omega)).mono ?_; rintro e w3 ⟨rfl, hb3⟩
      go_wp2_with (fail)
      go_ret3
      exact ⟨ret3 rfl (by rw [WN.out]; rfl), hbr.trans ((hb2.mono hsr).trans (hb3.mono (by omega)))⟩

theorem dR_bd (n : Int) : True := trivial
set_option maxHeartbeats 1000000 in
theorem bucketR_any (k t : Int) (w : World) (hk : 1 ≤ k) (hk' : k ≤ 5) (hn : -1099511627776 ≤ t) (hn' : t ≤ 1099511627776) :
    Calls Try.prog 28 #[.int .i64 k, .int .i64 t] w fun e w' => e = .returned (.tuple #[.int .i64 (Cal.bkt k t), .int .i64 0]) ∧ Below w.heap.size w w' := by
  have bt : -12800000 ≤ t / 86400 ∧ t / 86400 ≤ 12800000 := by omega
  have by1 := Cal.dy_bd (t / 86400) (by omega) (by omega)
  have by2 := Cal.dm_bd (t / 86400)
  have by3 := Cal.wy_bd (t / 86400) bt.1 bt.2
  have by4 := Cal.wn_bd (t / 86400) bt.1 bt.2
  obtain rfl | rfl | rfl | rfl | rfl : k = 1 ∨ k = 2 ∨ k = 3 ∨ k = 4 ∨ k = 5 := by omega
  all_goals
    clear hk hk'
    go_enter Try.func28, Try.ntmps28
    go_wp2_with (fail)
    refine (floorR_any _ _ _ (by omega) (by omega) (by omega) (by omega)).mono ?_; rintro e w1 ⟨rfl, rfl⟩
    go_wp2_with (fail)
    refine (dateR_any _ _ (by omega) (by omega)).mono ?_; rintro e w1 ⟨rfl, hb1⟩
    have hz := hb1.size
    go_wp2_with (fail)
  · refine (floorR_any _ _ _ (by omega) (by omega) (by omega) (by omega)).mono ?_; rintro e w2 ⟨rfl, rfl⟩
    go_wp2_with (fail)
    go_ret2
    exact ⟨rfl, hb1.alloc hz _⟩
  · go_ret2
    exact ⟨rfl, hb1.alloc hz _⟩
  · refine (weekR_any _ _ (by omega) (by omega)).mono ?_; rintro e w2 ⟨rfl, hb2⟩
    go_wp2_with (fail)
    go_ret2
    exact ⟨rfl, (hb1.alloc hz _).trans (hb2.mono (by simp; omega))⟩
  · go_ret2
    exact ⟨rfl, hb1.alloc hz _⟩
  · go_ret2
    exact ⟨rfl, hb1.alloc hz _⟩

theorem bucketR_bad (k t : Int) (w : World) (h : t < -1099511627776 ∨ 1099511627776 < t) :
    Calls Try.prog 28 #[.int .i64 k, .int .i64 t] w fun e w' => e = .returned (.tuple #[.int .i64 0, .int .i64 24]) ∧ w = w' := by
  rcases h with h | h
  · go_enter Try.func28, Try.ntmps28
    go_wp2
    go_ret2
    exact ⟨rfl, rfl⟩
  · have h2 : ¬ t < -1099511627776 := by omega
    go_enter Try.func28, Try.ntmps28
    go_wp2
    go_ret2
    exact ⟨rfl, rfl⟩
end Go.Proofs.Ytijkadahcggmeaa
