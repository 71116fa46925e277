/- The program's errors, with their numbers. -/
import Derived.Test.YtijkadahcggmeaaR6
namespace Go.Proofs.Ytijkadahcggmeaa
open Go.RowKit Go.Sort Go.Shelf Go.Lib

set_option maxRecDepth 100000 in
set_option maxHeartbeats 1000000 in
theorem why_errC (p : Nat → Int) (a : Option Addr) (cap : Nat) (L : List Sn) (w : World) (hL : L.length ≤ 1000) (h : SN w a L w.heap.size) (hbad : ¬ (PolOk p ∧ TimesOk L)) :
    Calls Try.prog 10 #[.agg (P6 p), .slice a L.length cap] w fun e w' => e = .returned (.tuple #[.slice none 0 0, .iface 59 (.int .i64 (codeOf p))]) ∧ Below w.heap.size w w' := by
  have H := Lib.hid h
  clear h
  by_cases hp : PolOk p
  · have C := Lib.hid (show codeOf p = 24 from if_pos hp)
    obtain ⟨K, hK, hT, hbad2⟩ := times_bad L (fun h => hbad ⟨hp, h⟩)
    have HT := Lib.hid hT
    clear hT hbad
    go_enter Try.func10, Try.ntmps10
    go_wp2_with (fail)
    refine (check_ok p _ hp).mono ?_; rintro e w1 ⟨rfl, hb1⟩
    go_wp2_with (fail)
    go_loopw [25] (fun i wr => ∃ k : Nat, k ≤ K ∧ i = .int .i64 k ∧ Below w.heap.size w wr) (fun i _ => L.length - (intOf i).toNat)
    case atStart => exact ⟨0, by omega, rfl, (((Below.refl _ _).alloc (Nat.le_refl _) _).trans (hb1.mono (by simp)))⟩
    case round =>
      obtain ⟨k, hk, rfl, hbr⟩ := hrel
      have hlt : k < L.length := by omega
      obtain ⟨b, o, rfl, hbB, hr, hlen, hone⟩ := H.out.addr k hlt
      have hrr := rangeAt_below hbr hbB hr
      have hsz : (Try.prog.info? 30).map (·.size) = some ((at' L k).cells).length := by rw [hlen]; kernel_rfl
      have hsz2 : (Try.prog.info? 30).map (·.size) = some ((at' L k).cells).toArray.size := by rw [List.size_toArray, hlen]; kernel_rfl
      have ho := all_oneCell_toArray hone
      have hc1 : ((at' L k).cells)[1]? = some (.int .i64 (at' L k).time) := rfl
      have hs36 : ((at' L k).cells).toArray.size = 36 := by rw [List.size_toArray, hlen]
      have HH := Lib.hid hlen
      clear hr hlen hone
      go_wp2_with (first | (refine wpList_load_mid rfl 30 _ rfl b (o + k * 36) rfl _ _ hrr Try.underlying30 rfl hsz ?_) | (refine wpList_store_new rfl 30 _ _ rfl _ _ rfl rfl hs36.symm hsz2 ho ?_))
      by_cases hKk : k < K
      · have tt := HT.out k hKk
        refine (bucket_any 1 (at' L k).time _ (by omega) (by omega) tt.1 tt.2).mono ?_
        rintro e w2 ⟨rfl, hb2⟩
        go_wp2_with (fail)
        go_roundw
        case rel => exact ⟨k + 1, by omega, by go_num, (hbr.alloc hbr.size _).trans (hb2.mono (by have := hbr.size; simp; omega))⟩
        case measure => simp [intOf]; omega
      · obtain rfl : k = K := by omega
        refine (bucket_bad 1 (at' L k).time _ hbad2).mono ?_
        rintro e w2 ⟨rfl, rfl⟩
        go_wp2_with (fail)
        go_ret2
        exact ⟨by rw [C.out]; rfl, hbr.alloc hbr.size _⟩
  · have C := Lib.hid (show codeOf p = 23 from if_neg hp)
    go_enter Try.func10, Try.ntmps10
    go_wp2_with (fail)
    refine (check_bad p _ hp).mono ?_; rintro e w1 ⟨rfl, hb1⟩
    go_wp2_with (fail)
    go_ret2
    exact ⟨by rw [C.out]; rfl, (((Below.refl _ _).alloc (Nat.le_refl _) _).trans (hb1.mono (by simp)))⟩
set_option maxHeartbeats 1000000 in
theorem keep_errC (p : Nat → Int) (a : Option Addr) (cap : Nat) (L : List Sn) (w : World) (hL : L.length ≤ 1000) (h : SN w a L w.heap.size) (hbad : ¬ (PolOk p ∧ TimesOk L)) :
    Calls Try.prog 14 #[.agg (P6 p), .slice a L.length cap] w fun e w' => e = .returned (.tuple #[.slice none 0 0, .iface 59 (.int .i64 (codeOf p))]) ∧ Below w.heap.size w w' := by
  have H := Lib.hid h
  clear h
  go_enter Try.func14, Try.ntmps14
  go_wp2_with (fail)
  refine (why_errC p a cap L _ hL (H.out.below ((Below.refl _ _).alloc (Nat.le_refl _) _)) hbad).mono ?_
  rintro e w1 ⟨rfl, hb1⟩
  go_wp2_with (fail)
  go_ret2
  exact ⟨rfl, ((Below.refl _ _).alloc (Nat.le_refl _) _).trans (hb1.mono (by simp))⟩

set_option maxHeartbeats 1000000 in
theorem gone_errC (p : Nat → Int) (a : Option Addr) (cap : Nat) (L : List Sn) (w : World) (hL : L.length ≤ 1000) (h : SN w a L w.heap.size) (hbad : ¬ (PolOk p ∧ TimesOk L)) :
    Calls Try.prog 12 #[.agg (P6 p), .slice a L.length cap] w fun e w' => e = .returned (.tuple #[.slice none 0 0, .iface 59 (.int .i64 (codeOf p))]) ∧ Below w.heap.size w w' := by
  have H := Lib.hid h
  clear h
  go_enter Try.func12, Try.ntmps12
  go_wp2_with (fail)
  refine (keep_errC p a cap L _ hL (H.out.below ((Below.refl _ _).alloc (Nat.le_refl _) _)) hbad).mono ?_
  rintro e w1 ⟨rfl, hb1⟩
  go_wp2_with (fail)
  go_ret2
  exact ⟨rfl, ((Below.refl _ _).alloc (Nat.le_refl _) _).trans (hb1.mono (by simp))⟩

end Go.Proofs.Ytijkadahcggmeaa
