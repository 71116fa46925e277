/- The walk of the law PruneTwice. -/
import Derived.Test.YtijkadahcggmeaaT1
namespace Go.Proofs.Ytijkadahcggmeaa
open Go.RowKit Go.Sort Go.Shelf Go.Lib

theorem twice_long (p : Nat → Int) (a : Option Addr) (n cap : Nat) (w : World) (h : 150 < n) :
    Calls Try.prog 6 #[.agg (P6 p), .slice a n cap] w fun e w' => e = .returned (.bool true) ∧ Below w.heap.size w w' := by
  go_enter Try.func6, Try.ntmps6
  go_wp2_with (fail)
  refine (alive_any _).mono ?_; rintro e w1 ⟨rfl, hb1⟩
  go_wp2_with (fail)
  refine (long_yes _ _ _ _ h).mono ?_; rintro e w2 ⟨rfl, rfl⟩
  go_wp2_with (fail)
  go_ret
  exact ⟨rfl, ((Below.refl _ _).alloc (Nat.le_refl _) _).trans (hb1.mono (by simp))⟩

set_option maxRecDepth 100000 in
set_option maxHeartbeats 2000000 in
theorem twice_walk_ok (p : Nat → Int) (a : Option Addr) (cap : Nat) (L : List Sn) (w : World) (hL : L.length ≤ 150) (h : SN w a L w.heap.size) (hok : PolOk p ∧ TimesOk L) :
    Calls Try.prog 6 #[.agg (P6 p), .slice a L.length cap] w fun e w' => e = .returned (.bool true) ∧ Below w.heap.size w w' := by
  obtain ⟨i0, hi0, hz0, hz1, hz2⟩ := info_parts info30
  have H := Lib.hid h
  clear h
  have hnone := build_none
  go_enter Try.func6, Try.ntmps6
  go_wp2_with (fail)
  refine (alive_any _).mono ?_; rintro e w1 ⟨rfl, hb1⟩
  have hs1 := hb1.size
  rw [World.size_alloc] at hs1
  have hbw : Below w.heap.size w w1 := ((Below.refl _ _).alloc (Nat.le_refl _) _).trans (hb1.mono (by simp))
  have hbp : w1.heap[w.heap.size]? = some (.cells (P6 p) 23 (0, 0)) := (hb1.block _ (by simp)).trans (heap_alloc_new _ _)
  clear hb1
  go_wp2_with (fail)
  refine (long_no _ _ _ _ (by omega)).mono ?_; rintro e w2 ⟨rfl, rfl⟩
  go_wp2_with (first | (refine wpList_load_row rfl 23 _ rfl w.heap.size rfl 23 (P6 p) (0, 0) _ hbp Try.underlying23 rfl (by kernel_rfl) ?_))
  refine (keep_ok p a cap L _ hok.1 (by omega) (H.out.below hbw) hok.2).mono ?_
  rintro e w3 ⟨⟨kv, rfl, hkeep⟩, hb3⟩
  have hs3 := hb3.size
  have hbp3 := (hb3.block _ (lt_of_block hbp)).trans hbp
  have hbw3 := hbw.trans (hb3.mono hbw.size)
  have HK := Lib.hid hkeep
  clear hkeep hb3 hbw hbp
  go_wp2_with (fail)
  go_loopw [7, 32] (fun v i wr => ∃ k : Nat, k ≤ L.length ∧ i = .int .i64 k ∧ wr.ownsRow w3.heap.size 30 36 v (leftK L p k).length (flat (leftK L p k)) ∧ Below w3.heap.size w3 wr) (fun _ i _ => L.length - (intOf i).toNat)
  case atStart => exact ⟨0, by omega, rfl, ⟨rfl, .inr ⟨_, 0, #[], rfl, Nat.le_refl _, heap_alloc_new _ _, by simp [leftK], by simp, rfl, by simp [leftK, flat]⟩⟩, (Below.refl _ _).alloc (Nat.le_refl _) _⟩
  case round =>
    obtain ⟨k, hk, rfl, hown, hb⟩ := hrel
    by_cases hlt : k < L.length
    · have hsz := hb.size
      obtain ⟨b, o, rfl, hbB, hr, hlen, hone⟩ := H.out.addr k hlt
      have hbr := hbw3.trans (hb.mono (by omega))
      have hrr := rangeAt_below hbr hbB hr
      have hisz : (Try.prog.info? 30).map (·.size) = some ((at' L k).cells).length := by rw [hlen]; kernel_rfl
      have hsz2 : (Try.prog.info? 30).map (·.size) = some ((at' L k).cells).toArray.size := by rw [List.size_toArray, hlen]; kernel_rfl
      have ho := all_oneCell_toArray hone
      have hs36 : ((at' L k).cells).toArray.size = 36 := by rw [List.size_toArray, hlen]
      have hbu := build_one (at' L k) hlen (wr.alloc (.cells ((at' L k).cells).toArray 30))
      rw [World.size_alloc] at hbu
      have HBU := Lib.hid hbu
      clear hbu
      have HH := Lib.hid hlen
      have HONE := Lib.hid hone
      clear hr hlen hone
      rcases HK.out with ⟨_, ⟨_, h1⟩ | ⟨kb, kc, kcur, rfl, hkb, hkcur, hkc1, hkc2, hkc3, hkc4⟩⟩
      · omega
      · have hkl := lt_of_block hkcur
        have hkcell : ∀ ob, (wr.alloc ob).cell? ⟨kb, k, none⟩ = some (.bool (keepB L p k)) := by
          intro ob
          rw [World.cell?_alloc_past _ _ _ (show kb < wr.heap.size by omega), hb.cell (p := ⟨kb, k, none⟩) hkl, cell_of_row _ _ _ _ _ _ hkcur]
          rw [Nat.mul_one] at hkc4
          have h1 : (kcur.toList.take L.length)[k]? = some (.bool (keepB L p k)) := by rw [hkc4]; simp [keepV, hlt]
          rwa [List.getElem?_take, if_pos hlt, Array.getElem?_toList] at h1
        clear hkcur hkc4 hkc3
        have hgs := leftK_succ L p k
        have hgl := leftK_len L p k
        cases hkk : keepB L p k
        · simp only [hkk] at hkcell; rw [hkk] at hgs
          simp only [Bool.false_eq_true, if_false, List.append_nil] at hgs
          have HGS := Lib.hid hgs
          have HKK := Lib.hid hkk
          have HO := Lib.hid hown
          clear hgs hkk hown
          go_wp2_with (first | (refine wpList_load_mid rfl 30 _ rfl b (o + k * 36) rfl _ _ hrr Try.underlying30 rfl hisz ?_) | (refine wpList_store_new rfl 30 _ _ rfl _ _ rfl rfl hs36.symm hsz2 ho ?_))
          go_roundw
          case rel => exact ⟨k + 1, by omega, by go_num, by rw [HGS.out]; exact HO.out.alloc _, hb.alloc (by omega) _⟩
          case measure => simp [intOf]; omega
        · simp only [hkk] at hkcell; rw [hkk] at hgs
          simp only [if_true] at hgs
          have HGS := Lib.hid hgs
          have HKK := Lib.hid hkk
          clear hgs hkk
          go_wp2_with (first | (refine wpList_load_mid rfl 30 _ rfl b (o + k * 36) rfl _ _ hrr Try.underlying30 rfl hisz ?_) | (refine wpList_store_new rfl 30 _ _ rfl _ _ rfl rfl hs36.symm hsz2 ho ?_) | (refine wpList_load_row rfl 30 _ rfl wr.heap.size rfl 30 ((at' L k).cells).toArray (0, 0) _ (heap_alloc_new wr (.cells ((at' L k).cells).toArray 30)) Try.underlying30 rfl hsz2 ?_) | (refine wpList_buildSlice rfl 24 1 _ rfl #[(0, .agg ((at' L k).cells).toArray)] ?_ _ HBU.out ?_; (focus (first | (simp [Act.eval]; done) | (go_simp; done)))) | (at_builtin; refine wpList_append_own _ rfl _ _ 24 rfl w3.heap.size 30 i0 zagg 36 72 Try.underlying24 hi0 hz0 hz1 hz2 rfl (by decide) _ _ _ rfl ((hown.alloc _).alloc _) ⟨wr.heap.size + 1, 0, none⟩ 1 1 (at' L k).cells rfl ?c0 ?c1 ?c2 ?c3 ?c4 ?c5 ?_))
          case c0 => rw [HH.out]
          case c1 =>
            intro j u hu
            have e : ((wr.alloc (.cells ((at' L k).cells).toArray 30)).alloc (.cells ((at' L k).cells).toArray 30)).heap[wr.heap.size + 1]? = some (.cells ((at' L k).cells).toArray 30 (0, 0)) := by
              have h := heap_alloc_new (wr.alloc (.cells ((at' L k).cells).toArray 30)) (.cells ((at' L k).cells).toArray 30); rwa [World.size_alloc] at h
            rw [Addr.add_mid, cell_of_row _ _ _ _ _ _ e]; simpa using hu
          case c2 => exact HONE.out
          case c3 => unfold maxLen; omega
          case c4 => omega
          case c5 => simp; omega
          intro v' w4 hown1 hgrow _
          have hown2 : w4.ownsRow w3.heap.size 30 36 v' (leftK L p (k + 1)).length (flat (leftK L p (k + 1))) := by
            have e : flat (leftK L p (k + 1)) = flat (leftK L p k) ++ (at' L k).cells := by rw [HGS.out]; simp [flat]
            have e2 : (leftK L p (k + 1)).length = (leftK L p k).length + 1 := by rw [HGS.out]; simp
            rw [e, e2]; exact hown1
          have hb2 : Below w3.heap.size w3 w4 := ((hb.alloc (by omega) _).alloc (by simp; omega) _).grown hgrow (by simp; omega) (fun q hq => (hown.lt q hq).1)
          clear hown1 hgrow hown hb
          go_wp2_with (fail)
          go_roundw
          case rel => exact ⟨k + 1, by omega, by go_num, hown2, hb2⟩
          case measure => simp [intOf]; omega
    · obtain rfl : k = L.length := by omega
      obtain ⟨wo, rfl⟩ : ∃ wo : World, wo = wr := ⟨_, rfl⟩
      have h36 : ∀ s ∈ leftL L p, s.cells.length = 36 ∧ ∀ v ∈ s.cells, v.oneCell' = true := by
        intro s hs
        unfold leftL stay at hs
        rw [List.mem_map] at hs
        obtain ⟨i, hi, rfl⟩ := hs
        rw [List.mem_filter, List.mem_range] at hi
        obtain ⟨_, _, _, _, _, h1, h2⟩ := H.out.addr i hi.1
        exact ⟨h1, h2⟩
      rw [leftK_all] at hown
      obtain ⟨la, lcap, rfl, hSN⟩ := SN_own hown h36
      have hsz := hb.size
      have hbpo := (hb.block _ (lt_of_block hbp3)).trans hbp3
      have hbwo := hbw3.trans (hb.mono (by omega))
      have hll : (leftL L p).length ≤ L.length := by have := gone_count L p; omega
      have HSN := Lib.hid hSN
      clear hown hSN hb hbw3 hbp3
      go_wp2_with (first | (refine wpList_load_row rfl 23 _ rfl w.heap.size rfl 23 (P6 p) (0, 0) _ hbpo Try.underlying23 rfl (by kernel_rfl) ?_))
      refine (gone_ok p la lcap (leftL L p) _ hok.1 (by omega) HSN.out (left_times L p hok.2)).mono ?_
      rintro e w5 ⟨⟨v1, rfl, hs1⟩, hb5⟩
      rw [goneS_again] at hs1
      obtain ⟨ga, gcap, rfl, _⟩ := hs1
      have hbp5 := (hb5.block _ (lt_of_block hbpo)).trans hbpo
      have hbw5 := hbwo.trans (hb5.mono hbwo.size)
      clear hb5 hbwo hbpo
      simp only [List.length_nil]
      go_wp2_with (first | (refine wpList_load_row rfl 23 _ rfl w.heap.size rfl 23 (P6 p) (0, 0) _ hbp5 Try.underlying23 rfl (by kernel_rfl) ?_))
      refine (gone_ok p a cap L _ hok.1 (by omega) (H.out.below hbw5) hok.2).mono ?_
      rintro e w6 ⟨⟨v2, rfl, hs2⟩, hb6⟩
      obtain ⟨ha, hcap, rfl, hcells⟩ := hs2
      have hbw6 := hbw5.trans (hb6.mono hbw5.size)
      have hcount := gone_count L p
      have hne : (((goneS L p).length : Int) != (L.length : Int) - ((leftL L p).length : Int)) = false := by simp; omega
      have HCC := Lib.hid hcells
      have HCO := Lib.hid hcount
      have hgl : (goneS L p).length ≤ L.length := by omega
      clear hb6 hbw5 hbp5 hcells hcount
      go_wp2_with (fail)
      have hm1 : (0 : Int) ≤ (goneS L p).length := by omega
      go_loopw [13] (fun i wr => ∃ j : Nat, i = .int .i64 ((j : Int) + 1) ∧ j ≤ (goneS L p).length ∧ Below w6.heap.size w6 wr) (fun i _ => (goneS L p).length + 1 - (intOf i).toNat)
      case atStart => exact ⟨0, rfl, by omega, Below.refl _ _⟩
      case round =>
        obtain ⟨j, rfl, hj, hb7⟩ := hrel
        by_cases hlt : j + 1 < (goneS L p).length
        · obtain ⟨gb, go, rfl, hc1⟩ := HCC.out j (by omega)
          obtain ⟨gb2, go2, e2, hc2⟩ := HCC.out (j + 1) hlt
          simp only [Option.some.injEq, Addr.mk.injEq, and_true] at e2
          obtain ⟨rfl, rfl⟩ := e2
          have hs := goneS_sorted L p j hlt
          generalize (goneS L p)[j] = x at hc1 hs
          generalize (goneS L p)[j + 1] = y at hc2 hs
          have d1 : wr.cell? ⟨gb, go + j, none⟩ = some (.string ⟨x.toArray⟩) := (hb7.cell (p := ⟨gb, go + j, none⟩) (block_lt_of_cell hc1)).trans hc1
          have d2 : wr.cell? ⟨gb, go + (j + 1), none⟩ = some (.string ⟨y.toArray⟩) := (hb7.cell (p := ⟨gb, go + (j + 1), none⟩) (block_lt_of_cell hc2)).trans hc2
          have hlt2 : (j : Int) + 1 < (goneS L p).length := by omega
          clear hc1 hc2
          by_cases hxy : x < y
          · have hbl : Op.bytesLess x y = true := by rw [bytesLess_eq]; simpa using hxy
            clear hxy hs
            go_wp2_with (fail)
            go_region
            go_wp2_with (fail)
            go_roundw
            case rel => exact ⟨j + 1, by go_num, by omega, hb7.drew⟩
            case measure => simp [intOf]; omega
          · have hbl : Op.bytesLess x y = false := by rw [bytesLess_eq]; simpa using hxy
            have heq : x = y := List.le_antisymm hs (List.not_lt.1 hxy)
            have hbe : (x == y) = true := by simpa using heq
            clear hxy hs heq
            go_wp2_with (fail)
            go_region
            go_wp2_with (fail)
            go_roundw
            case rel => exact ⟨j + 1, by go_num, by omega, hb7.drew⟩
            case measure => simp [intOf]; omega
        · have hge : ¬ (j : Int) + 1 < (goneS L p).length := by omega
          go_wp2_with (fail)
          go_ret
          exact ⟨rfl, hbw6.trans (hb7.mono hbw6.size)⟩

theorem twice_walk_err (p : Nat → Int) (a : Option Addr) (cap : Nat) (L : List Sn) (w : World) (hL : L.length ≤ 150) (h : SN w a L w.heap.size) (hok : ¬ (PolOk p ∧ TimesOk L)) :
    Calls Try.prog 6 #[.agg (P6 p), .slice a L.length cap] w fun e w' => e = .returned (.bool true) ∧ Below w.heap.size w w' := by
  have H := Lib.hid h
  clear h
  go_enter Try.func6, Try.ntmps6
  go_wp2_with (fail)
  refine (alive_any _).mono ?_; rintro e w1 ⟨rfl, hb1⟩
  have hbw : Below w.heap.size w w1 := ((Below.refl _ _).alloc (Nat.le_refl _) _).trans (hb1.mono (by simp))
  have hbp : w1.heap[w.heap.size]? = some (.cells (P6 p) 23 (0, 0)) := (hb1.block _ (by simp)).trans (heap_alloc_new _ _)
  clear hb1
  go_wp2_with (fail)
  refine (long_no _ _ _ _ (by omega)).mono ?_; rintro e w2 ⟨rfl, rfl⟩
  go_wp2_with (first | (refine wpList_load_row rfl 23 _ rfl w.heap.size rfl 23 (P6 p) (0, 0) _ hbp Try.underlying23 rfl (by kernel_rfl) ?_))
  refine (keep_err p a cap L _ (by omega) (H.out.below hbw) hok).mono ?_
  rintro e w3 ⟨⟨c, hc, rfl⟩, hb3⟩
  have HC := Lib.hid hc
  clear hc hbp
  go_wp2_with (fail)
  go_ret
  exact ⟨rfl, hbw.trans (hb3.mono hbw.size)⟩

theorem twice_walk (p : Nat → Int) (a : Option Addr) (cap : Nat) (L : List Sn) (w : World) (h : SN w a L w.heap.size) :
    Calls Try.prog 6 #[.agg (P6 p), .slice a L.length cap] w fun e w' => e = .returned (.bool true) ∧ Below w.heap.size w w' := by
  by_cases hL : L.length ≤ 150
  · by_cases hok : PolOk p ∧ TimesOk L
    · exact twice_walk_ok p a cap L w hL h hok
    · exact twice_walk_err p a cap L w hL h hok
  · exact twice_long p a L.length cap w (by omega)
end Go.Proofs.Ytijkadahcggmeaa
