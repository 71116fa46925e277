/- The walk of the law PruneGrows. -/
import Derived.Test.YtijkadahcggmeaaC3
import Derived.Test.YtijkadahcggmeaaB9
import Derived.Deep.RegionHeld3
import Derived.Deep.DeepCutAuto
namespace Go.Proofs.Ytijkadahcggmeaa
open Go.RowKit Go.Sort Go.Shelf Go.Lib

def grownP (p m : Nat → Int) (k : Nat) : Int := max (p k) (min (m k) 1048576)

theorem grows_long (p m : Nat → Int) (a : Option Addr) (n cap : Nat) (w : World) (h : 150 < n) :
    Calls Try.prog 5 #[.agg (P6 p), .agg (P6 m), .slice a n cap] w fun e w' => e = .returned (.bool true) ∧ Below w.heap.size w w' := by
  go_enter Try.func5, Try.ntmps5
  go_wp2_with (fail)
  refine (alive_any _).mono ?_; rintro e w1 ⟨rfl, hb1⟩
  go_wp2_with (fail)
  refine (long_yes _ _ _ _ h).mono ?_; rintro e w2 ⟨rfl, rfl⟩
  go_wp2_with (fail)
  go_ret
  exact ⟨rfl, (((Below.refl _ _).alloc (Nat.le_refl _) _).alloc (by simp) _).trans (hb1.mono (by simp; omega))⟩

set_option maxRecDepth 100000 in
set_option maxHeartbeats 1000000 in
theorem grows_walk_ok (p m : Nat → Int) (a : Option Addr) (cap : Nat) (L : List Sn) (w : World) (hL : L.length ≤ 150) (h : SN w a L w.heap.size) (hok : PolOk p ∧ TimesOk L) :
    Calls Try.prog 5 #[.agg (P6 p), .agg (P6 m), .slice a L.length cap] w fun e w' => e = .returned (.bool true) ∧ Below w.heap.size w w' := by
  have H := Lib.hid h
  clear h
  go_enter Try.func5, Try.ntmps5
  go_wp2_with (fail)
  refine (alive_any _).mono ?_; rintro e w1 ⟨rfl, hb1⟩
  have hs1 := hb1.size
  rw [World.size_alloc, World.size_alloc] at hs1
  have hbw : Below w.heap.size w w1 := (((Below.refl _ _).alloc (Nat.le_refl _) _).alloc (by simp) _).trans (hb1.mono (by simp; omega))
  have hbp : w1.heap[w.heap.size]? = some (.cells (P6 p) 23 (0, 0)) := (hb1.block _ (by simp; omega)).trans ((Below.heap_alloc _ _ _ (by simp)).trans (heap_alloc_new _ _))
  have hbm : w1.heap[w.heap.size + 1]? = some (.cells (P6 m) 23 (0, 0)) := (hb1.block _ (by simp)).trans (by have := heap_alloc_new (w.alloc (.cells (P6 p) 23)) (.cells (P6 m) 23); rwa [World.size_alloc] at this)
  clear hb1
  go_wp2_with (fail)
  refine (long_no _ _ _ _ (by omega)).mono ?_; rintro e w2 ⟨rfl, rfl⟩
  go_wp2_with (first | (refine wpList_load_row rfl 23 _ rfl w.heap.size rfl 23 (P6 p) (0, 0) _ hbp Try.underlying23 rfl (by kernel_rfl) ?_))
  refine (why_ok p a cap L _ hok.1 (by omega) (H.out.below hbw) hok.2).mono ?_
  rintro e w3 ⟨⟨b1, rfl, hrow1, hbb1⟩, hb3⟩
  have hs3 := hb3.size
  have hbp3 := (hb3.block _ (lt_of_block hbp)).trans hbp
  have hbm3 := (hb3.block _ (lt_of_block hbm)).trans hbm
  have hbw3 := hbw.trans (hb3.mono hbw.size)
  clear hbp hbm hb3 hbw
  have cp : ∀ k, k < 6 → w3.cell? ⟨w.heap.size, k, none⟩ = (P6 p)[k]? := fun k _ => cell_of_row _ _ _ _ _ _ hbp3
  have cm : ∀ k, k < 6 → w3.cell? ⟨w.heap.size + 1, k, none⟩ = (P6 m)[k]? := fun k _ => cell_of_row _ _ _ _ _ _ hbm3
  have p0 := cp 0 (by omega); have p1 := cp 1 (by omega); have p2 := cp 2 (by omega); have p3 := cp 3 (by omega); have p4 := cp 4 (by omega); have p5 := cp 5 (by omega)
  have m0 := cm 0 (by omega); have m1 := cm 1 (by omega); have m2 := cm 2 (by omega); have m3 := cm 3 (by omega); have m4 := cm 4 (by omega); have m5 := cm 5 (by omega)
  simp only [P6, List.getElem?_toArray, List.getElem?_cons_zero, List.getElem?_cons_succ] at p0 p1 p2 p3 p4 p5 m0 m1 m2 m3 m4 m5
  clear cp cm
  go_upto_region 6 with fail
  go_cut [9] (fun s9 wx => s9 = .pointer (some ⟨w3.heap.size, 0, none⟩) ∧ wx.heap[w3.heap.size]? = some (.cells (P6 (grownP p m)) 23 (0, 0)) ∧ Below w3.heap.size w3 wx)
  case first =>
    go_region_held3 (fun w' => w'.cell? ⟨w.heap.size, 0, none⟩ = some (.int .i64 (p 0)) ∧ w'.cell? ⟨w.heap.size, 1, none⟩ = some (.int .i64 (p 1)) ∧ w'.cell? ⟨w.heap.size, 2, none⟩ = some (.int .i64 (p 2)) ∧ w'.cell? ⟨w.heap.size, 3, none⟩ = some (.int .i64 (p 3)) ∧ w'.cell? ⟨w.heap.size, 4, none⟩ = some (.int .i64 (p 4)) ∧ w'.cell? ⟨w.heap.size, 5, none⟩ = some (.int .i64 (p 5)) ∧ w'.cell? ⟨w.heap.size + 1, 0, none⟩ = some (.int .i64 (m 0)) ∧ w'.cell? ⟨w.heap.size + 1, 1, none⟩ = some (.int .i64 (m 1)) ∧ w'.cell? ⟨w.heap.size + 1, 2, none⟩ = some (.int .i64 (m 2)) ∧ w'.cell? ⟨w.heap.size + 1, 3, none⟩ = some (.int .i64 (m 3)) ∧ w'.cell? ⟨w.heap.size + 1, 4, none⟩ = some (.int .i64 (m 4)) ∧ w'.cell? ⟨w.heap.size + 1, 5, none⟩ = some (.int .i64 (m 5))) (go_keep) (first | (go_at_call 23; refine (grown_any _ _ _).mono ?_; rintro e w' ⟨rfl, rfl⟩))
    all_goals (go_wp2_with fail; go_meet; exact ⟨rfl, heap_alloc_new _ _, ((Below.refl _ _).alloc (Nat.le_refl _) _).drew⟩)
  case rest =>
    obtain ⟨rfl, hq, hbx⟩ := hcut
    go_wp2_with (first | (refine wpList_load_row rfl 23 _ rfl w3.heap.size rfl 23 (P6 (grownP p m)) (0, 0) _ hq Try.underlying23 rfl (by kernel_rfl) ?_))
    have hbw4 := hbw3.trans (hbx.mono hbw3.size)
    have hrow2 := (hbx.block _ (lt_of_block hrow1)).trans hrow1
    clear hbx hrow1 hbw3
    by_cases hok2 : PolOk (grownP p m)
    · refine (why_ok (grownP p m) a cap L _ hok2 (by omega) (H.out.below hbw4) hok.2).mono ?_
      rintro e w5 ⟨⟨b2, rfl, hrow3, hbb2⟩, hb5⟩
      have hrow4 := (hb5.block _ (lt_of_block hrow2)).trans hrow2
      have hbw5 := hbw4.trans (hb5.mono hbw4.size)
      have hpp := hok.1.1
      have GR := Lib.hid (grows L p (grownP p m) (fun k hk => (hpp k hk).1) (fun k _ => by unfold grownP; omega))
      have R1 := Lib.hid hrow4
      have R2 := Lib.hid hrow3
      clear hrow2 hrow3 hrow4 hb5 hbw4 hpp hq
      go_wp2_with (fail)
      go_loopw [68] (fun i wr => ∃ k : Nat, k ≤ L.length ∧ i = .int .i64 k ∧ Below w5.heap.size w5 wr) (fun i _ => L.length - (intOf i).toNat)
      case atStart => exact ⟨0, by omega, rfl, Below.refl _ _⟩
      case round =>
        obtain ⟨k, hk, rfl, hbr⟩ := hrel
        by_cases hlt : k < L.length
        · have c1 : wr.cell? ⟨b1, k, none⟩ = some (.int .i64 (whyM L p 6 k : Nat)) := by
            rw [hbr.cell (p := ⟨b1, k, none⟩) (lt_of_block R1.out), cell_of_row _ _ _ _ _ _ R1.out, row_get _ _ _ hlt]
          have c2 : wr.cell? ⟨b2, k, none⟩ = some (.int .i64 (whyM L (grownP p m) 6 k : Nat)) := by
            rw [hbr.cell (p := ⟨b2, k, none⟩) (lt_of_block R2.out), cell_of_row _ _ _ _ _ _ R2.out, row_get _ _ _ hlt]
          have hand := GR.out k
          go_wp2_with (fail)
          go_region
          go_wp2_with (fail)
          go_roundw
          case rel => exact ⟨k + 1, by omega, by go_num, hbr.drew⟩
          case measure => simp [intOf]; omega
        · obtain rfl : k = L.length := by omega
          go_wp2_with (fail)
          go_ret
          exact ⟨rfl, hbw5.trans (hbr.mono hbw5.size)⟩
    · refine (why_err (grownP p m) a cap L _ (by omega) (H.out.below hbw4) (fun h => hok2 h.1)).mono ?_
      rintro e w5 ⟨⟨c, hc, rfl⟩, hb5⟩
      have HC := Lib.hid hc
      clear hc
      go_wp2_with (fail)
      go_ret
      exact ⟨rfl, hbw4.trans (hb5.mono hbw4.size)⟩

set_option maxRecDepth 100000 in
set_option maxHeartbeats 1000000 in
theorem grows_walk_err (p m : Nat → Int) (a : Option Addr) (cap : Nat) (L : List Sn) (w : World) (hL : L.length ≤ 150) (h : SN w a L w.heap.size) (hok : ¬ (PolOk p ∧ TimesOk L)) :
    Calls Try.prog 5 #[.agg (P6 p), .agg (P6 m), .slice a L.length cap] w fun e w' => e = .returned (.bool true) ∧ Below w.heap.size w w' := by
  have H := Lib.hid h
  clear h
  go_enter Try.func5, Try.ntmps5
  go_wp2_with (fail)
  refine (alive_any _).mono ?_; rintro e w1 ⟨rfl, hb1⟩
  have hs1 := hb1.size
  rw [World.size_alloc, World.size_alloc] at hs1
  have hbw : Below w.heap.size w w1 := (((Below.refl _ _).alloc (Nat.le_refl _) _).alloc (by simp) _).trans (hb1.mono (by simp; omega))
  have hbp : w1.heap[w.heap.size]? = some (.cells (P6 p) 23 (0, 0)) := (hb1.block _ (by simp; omega)).trans ((Below.heap_alloc _ _ _ (by simp)).trans (heap_alloc_new _ _))
  have hbm : w1.heap[w.heap.size + 1]? = some (.cells (P6 m) 23 (0, 0)) := (hb1.block _ (by simp)).trans (by have := heap_alloc_new (w.alloc (.cells (P6 p) 23)) (.cells (P6 m) 23); rwa [World.size_alloc] at this)
  clear hb1
  go_wp2_with (fail)
  refine (long_no _ _ _ _ (by omega)).mono ?_; rintro e w2 ⟨rfl, rfl⟩
  go_wp2_with (first | (refine wpList_load_row rfl 23 _ rfl w.heap.size rfl 23 (P6 p) (0, 0) _ hbp Try.underlying23 rfl (by kernel_rfl) ?_))
  refine (why_err p a cap L _ (by omega) (H.out.below hbw) hok).mono ?_
  rintro e w3 ⟨⟨c, hc, rfl⟩, hb3⟩
  have HC := Lib.hid hc
  clear hc
  have hs3 := hb3.size
  have hbp3 := (hb3.block _ (lt_of_block hbp)).trans hbp
  have hbm3 := (hb3.block _ (lt_of_block hbm)).trans hbm
  have hbw3 := hbw.trans (hb3.mono hbw.size)
  clear hbp hbm hb3 hbw
  have cp : ∀ k, k < 6 → w3.cell? ⟨w.heap.size, k, none⟩ = (P6 p)[k]? := fun k _ => cell_of_row _ _ _ _ _ _ hbp3
  have cm : ∀ k, k < 6 → w3.cell? ⟨w.heap.size + 1, k, none⟩ = (P6 m)[k]? := fun k _ => cell_of_row _ _ _ _ _ _ hbm3
  have p0 := cp 0 (by omega); have p1 := cp 1 (by omega); have p2 := cp 2 (by omega); have p3 := cp 3 (by omega); have p4 := cp 4 (by omega); have p5 := cp 5 (by omega)
  have m0 := cm 0 (by omega); have m1 := cm 1 (by omega); have m2 := cm 2 (by omega); have m3 := cm 3 (by omega); have m4 := cm 4 (by omega); have m5 := cm 5 (by omega)
  simp only [P6, List.getElem?_toArray, List.getElem?_cons_zero, List.getElem?_cons_succ] at p0 p1 p2 p3 p4 p5 m0 m1 m2 m3 m4 m5
  clear cp cm
  go_upto_region 6 with fail
  go_cut [9] (fun s9 wx => s9 = .pointer (some ⟨w3.heap.size, 0, none⟩) ∧ wx.heap[w3.heap.size]? = some (.cells (P6 (grownP p m)) 23 (0, 0)) ∧ Below w3.heap.size w3 wx)
  case first =>
    go_region_held3 (fun w' => w'.cell? ⟨w.heap.size, 0, none⟩ = some (.int .i64 (p 0)) ∧ w'.cell? ⟨w.heap.size, 1, none⟩ = some (.int .i64 (p 1)) ∧ w'.cell? ⟨w.heap.size, 2, none⟩ = some (.int .i64 (p 2)) ∧ w'.cell? ⟨w.heap.size, 3, none⟩ = some (.int .i64 (p 3)) ∧ w'.cell? ⟨w.heap.size, 4, none⟩ = some (.int .i64 (p 4)) ∧ w'.cell? ⟨w.heap.size, 5, none⟩ = some (.int .i64 (p 5)) ∧ w'.cell? ⟨w.heap.size + 1, 0, none⟩ = some (.int .i64 (m 0)) ∧ w'.cell? ⟨w.heap.size + 1, 1, none⟩ = some (.int .i64 (m 1)) ∧ w'.cell? ⟨w.heap.size + 1, 2, none⟩ = some (.int .i64 (m 2)) ∧ w'.cell? ⟨w.heap.size + 1, 3, none⟩ = some (.int .i64 (m 3)) ∧ w'.cell? ⟨w.heap.size + 1, 4, none⟩ = some (.int .i64 (m 4)) ∧ w'.cell? ⟨w.heap.size + 1, 5, none⟩ = some (.int .i64 (m 5))) (go_keep) (first | (go_at_call 23; refine (grown_any _ _ _).mono ?_; rintro e w' ⟨rfl, rfl⟩))
    all_goals (go_wp2_with fail; go_meet; exact ⟨rfl, heap_alloc_new _ _, ((Below.refl _ _).alloc (Nat.le_refl _) _).drew⟩)
  case rest =>
    obtain ⟨rfl, hq, hbx⟩ := hcut
    go_wp2_with (first | (refine wpList_load_row rfl 23 _ rfl w3.heap.size rfl 23 (P6 (grownP p m)) (0, 0) _ hq Try.underlying23 rfl (by kernel_rfl) ?_))
    have hbw4 := hbw3.trans (hbx.mono hbw3.size)
    clear hbx hbw3
    by_cases hok2 : PolOk (grownP p m) ∧ TimesOk L
    · refine (why_ok (grownP p m) a cap L _ hok2.1 (by omega) (H.out.below hbw4) hok2.2).mono ?_
      rintro e w5 ⟨⟨b2, rfl, hrow3, hbb2⟩, hb5⟩
      clear hrow3
      go_wp2_with (fail)
      go_ret
      exact ⟨rfl, hbw4.trans (hb5.mono hbw4.size)⟩
    · refine (why_err (grownP p m) a cap L _ (by omega) (H.out.below hbw4) hok2).mono ?_
      rintro e w5 ⟨⟨c2, hc2, rfl⟩, hb5⟩
      have HC2 := Lib.hid hc2
      clear hc2
      go_wp2_with (fail)
      go_ret
      exact ⟨rfl, hbw4.trans (hb5.mono hbw4.size)⟩

theorem grows_walk (p m : Nat → Int) (a : Option Addr) (cap : Nat) (L : List Sn) (w : World) (h : SN w a L w.heap.size) :
    Calls Try.prog 5 #[.agg (P6 p), .agg (P6 m), .slice a L.length cap] w fun e w' => e = .returned (.bool true) ∧ Below w.heap.size w w' := by
  by_cases hL : L.length ≤ 150
  · by_cases hok : PolOk p ∧ TimesOk L
    · exact grows_walk_ok p m a cap L w hL h hok
    · exact grows_walk_err p m a cap L w hL h hok
  · exact grows_long p m a L.length cap w (by omega)
end Go.Proofs.Ytijkadahcggmeaa
