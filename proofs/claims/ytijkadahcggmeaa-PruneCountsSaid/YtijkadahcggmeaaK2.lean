/- The walk of the law PruneCounts, up to the rules. -/
import Derived.Test.YtijkadahcggmeaaK1
import Derived.Deep.RegionHeld3
import Derived.BigQuiet
namespace Go.Proofs.Ytijkadahcggmeaa
open Go.RowKit Go.Sort Go.Shelf Go.Lib

theorem counts_long (p : Nat → Int) (a : Option Addr) (n cap : Nat) (w : World) (h : 150 < n) :
    Calls Try.prog 4 #[.agg (P6 p), .slice a n cap] w fun e w' => e = .returned (.bool true) ∧ Below w.heap.size w w' := by
  go_enter Try.func4, Try.ntmps4
  go_wp2_with (fail)
  refine (alive_any _).mono ?_; rintro e w1 ⟨rfl, hb1⟩
  go_wp2_with (fail)
  refine (long_yes _ _ _ _ h).mono ?_; rintro e w2 ⟨rfl, rfl⟩
  go_wp2_with (fail)
  go_ret
  exact ⟨rfl, ((Below.refl _ _).alloc (Nat.le_refl _) _).trans (hb1.mono (by simp))⟩

set_option maxRecDepth 100000 in
theorem counts_err (p : Nat → Int) (a : Option Addr) (cap : Nat) (L : List Sn) (w : World) (hL : L.length ≤ 150) (h : SN w a L w.heap.size) (hok : ¬ (PolOk p ∧ TimesOk L)) :
    Calls Try.prog 4 #[.agg (P6 p), .slice a L.length cap] w fun e w' => e = .returned (.bool true) ∧ Below w.heap.size w w' := by
  have H := Lib.hid h
  clear h
  go_enter Try.func4, Try.ntmps4
  go_wp2_with (fail)
  refine (alive_any _).mono ?_; rintro e w1 ⟨rfl, hb1⟩
  have hbw : Below w.heap.size w w1 := ((Below.refl _ _).alloc (Nat.le_refl _) _).trans (hb1.mono (by simp))
  have hbp : w1.heap[w.heap.size]? = some (.cells (P6 p) 23 (0, 0)) := (hb1.block _ (by simp)).trans (heap_alloc_new _ _)
  clear hb1
  go_wp2_with (fail)
  refine (long_no _ _ _ _ (by omega)).mono ?_; rintro e w2 ⟨rfl, rfl⟩
  go_wp2_with (first | (refine wpList_load_row rfl 23 _ rfl w.heap.size rfl 23 (P6 p) (0, 0) _ hbp Try.underlying23 rfl (by kernel_rfl) ?_))
  refine (why_err p a cap L _ (by omega) (H.out.below hbw) hok).mono ?_
  rintro e w3 ⟨⟨c, hc, rfl⟩, hb3⟩
  have HC := Lib.hid hc
  clear hc hbp
  go_wp2_with (fail)
  go_ret
  exact ⟨rfl, hbw.trans (hb3.mono hbw.size)⟩

theorem P6_get (p : Nat → Int) (k : Nat) (h : k < 6) : (P6 p)[k]? = some (.int .i64 (p k)) := by
  obtain rfl | rfl | rfl | rfl | rfl | rfl : k = 0 ∨ k = 1 ∨ k = 2 ∨ k = 3 ∨ k = 4 ∨ k = 5 := by omega
  all_goals rfl
theorem top_succ (L : List Sn) (i : Nat) (h : 0 < i) : top L (i + 1) = if lt L i (top L i) then i else top L i := by
  simp only [top]; rw [if_neg (by omega)]
theorem top_le (L : List Sn) (i : Nat) : top L i ≤ i := by
  by_cases h : 0 < i
  · have := (top_spec L i h).1; omega
  · have : i = 0 := by omega
    subst this; simp [top]
/-- What the law asks at i of the newest so far. -/
def askB (s f : Sn) : Bool := decide (f.time < s.time) || (s.time == f.time && !Op.bytesLess s.name.toList f.name.toList)
theorem top_ask (L : List Sn) (i : Nat) : top L (i + 1) = if askB (at' L i) (at' L (top L i)) then i else top L i := by
  by_cases h : 0 < i
  · rw [top_succ L i h]
    have hb := (top_spec L i h).1
    have : lt L i (top L i) = askB (at' L i) (at' L (top L i)) := by
      rw [Bool.eq_iff_iff, lt_iff]
      unfold askB Nwr
      rw [bytesLess_eq]
      simp only [Bool.or_eq_true, Bool.and_eq_true, decide_eq_true_eq, beq_iff_eq, Bool.not_eq_true', decide_eq_false_iff_not]
      constructor
      · rintro (h | ⟨h, h2 | ⟨h2, _⟩⟩)
        · exact .inl h
        · exact .inr ⟨h.symm, fun hc => List.lt_irrefl _ (List.lt_trans hc h2)⟩
        · exact .inr ⟨h.symm, fun hc => by rw [h2] at hc; exact List.lt_irrefl _ hc⟩
      · rintro (h | ⟨h, h2⟩)
        · exact .inl h
        · refine .inr ⟨h.symm, ?_⟩
          by_cases e : (at' L (top L i)).name.toList < (at' L i).name.toList
          · exact .inl e
          · exact .inr ⟨List.le_antisymm (List.not_lt.1 h2) (List.not_lt.1 e), hb⟩
    rw [this]
  · have : i = 0 := by omega
    subst this
    simp only [top, if_true]
    exact (ite_self 0).symm

theorem and_one (m : Nat) (h : m < 2 ^ 62) : bits .and .i64 (m : Int) 1 = ((m % 2 : Nat) : Int) := by
  show IntKind.i64.wrap ((BitVec.ofInt 64 (m : Int) &&& BitVec.ofInt 64 ((1 : Nat) : Int)).toNat : Int) = _
  rw [BitVec.toNat_and, ofInt_nat m (by omega), ofInt_nat 1 (by omega), Nat.and_one_is_mod]
  have e : ((m % 2 : Nat) : Int) % 2 ^ 64 = (m % 2 : Nat) := Int.emod_eq_of_lt (by omega) (by omega)
  simp only [IntKind.wrap, IntKind.bits, IntKind.signed, e]
  rw [if_neg]
  simp
  omega
theorem bit_form (m k : Nat) (h : m < 2 ^ 6) : (bits .and .i64 ((m : Int) / 2 ^ k) 1 == 1) = m.testBit k := by
  have e : (m : Int) / 2 ^ k = ((m / 2 ^ k : Nat) : Int) := by rw [Int.natCast_ediv]; congr 1
  have hle : m / 2 ^ k ≤ m := Nat.div_le_self _ _
  rw [e, and_one _ (by omega), Nat.testBit_eq_decide_div_mod_eq]
  rw [Bool.eq_iff_iff]; simp; omega
theorem wrap_k (k : Nat) (h : k < 6) : IntKind.u64.wrap (k : Int) = k := by
  have : k = 0 ∨ k = 1 ∨ k = 2 ∨ k = 3 ∨ k = 4 ∨ k = 5 := by omega
  rcases this with rfl | rfl | rfl | rfl | rfl | rfl <;> rfl
theorem bits_one {x : Int} (h : (x == 1) = true) : x = 1 := by simpa using h
theorem cntK_succ (L : List Sn) (p : Nat → Int) (k n : Nat) : cntK L p k (n + 1) = cntK L p k n + (if (whyM L p 6 n).testBit k then 1 else 0) := by
  unfold cntK; rw [List.range_succ, List.filter_append, List.length_append]
  cases h : (whyM L p 6 n).testBit k <;> simp [h]
theorem cntK_le (L : List Sn) (p : Nat → Int) (k n : Nat) : cntK L p k n ≤ n := by
  have := List.length_filter_le (fun i => (whyM L p 6 i).testBit k) (List.range n); simpa [cntK] using this
theorem buckets_any (k : Nat) (a : Option Addr) (cap : Nat) (L : List Sn) (w : World) (hk5 : k ≤ 5) (hL : L.length ≤ 1000) (h : SN w a L w.heap.size) (ht : TimesOk L) :
    Calls Try.prog 21 #[.int .i64 k, .slice a L.length cap] w fun e w' => e = .returned (.int .i64 (bucketsN L k : Nat)) ∧ Below w.heap.size w w' := by
  by_cases h0 : k = 0
  · subst h0
    refine (buckets_zero a L.length cap w).mono ?_
    rintro e w' ⟨rfl, rfl⟩
    exact ⟨rfl, Below.refl _ _⟩
  · have e : bucketsN L k = cntB (bk L k) L.length := by unfold bucketsN; rw [if_neg h0]
    rw [e]
    exact buckets_some k a cap L w (by omega) hk5 hL h ht

set_option maxRecDepth 100000 in
set_option maxHeartbeats 40000000 in
theorem counts_walk_ok (p : Nat → Int) (a : Option Addr) (cap : Nat) (L : List Sn) (w : World) (hL : L.length ≤ 150) (h : SN w a L w.heap.size) (hok : PolOk p ∧ TimesOk L) :
    Calls Try.prog 4 #[.agg (P6 p), .slice a L.length cap] w fun e w' => e = .returned (.bool true) ∧ Below w.heap.size w w' := by
  have H := Lib.hid h
  clear h
  go_enter Try.func4, Try.ntmps4
  go_wp2_with (fail)
  refine (alive_any _).mono ?_; rintro e w1 ⟨rfl, hb1⟩
  have hbw : Below w.heap.size w w1 := ((Below.refl _ _).alloc (Nat.le_refl _) _).trans (hb1.mono (by simp))
  have hbp : w1.heap[w.heap.size]? = some (.cells (P6 p) 23 (0, 0)) := (hb1.block _ (by simp)).trans (heap_alloc_new _ _)
  clear hb1
  go_wp2_with (fail)
  refine (long_no _ _ _ _ (by omega)).mono ?_; rintro e w2 ⟨rfl, rfl⟩
  go_wp2_with (first | (refine wpList_load_row rfl 23 _ rfl w.heap.size rfl 23 (P6 p) (0, 0) _ hbp Try.underlying23 rfl (by kernel_rfl) ?_))
  refine (why_ok p a cap L _ hok.1 (by omega) (H.out.below hbw) hok.2).mono ?_
  rintro e w3 ⟨⟨b1, rfl, hrow, hbb⟩, hb3⟩
  have hbp3 := (hb3.block _ (lt_of_block hbp)).trans hbp
  have hbw3 := hbw.trans (hb3.mono hbw.size)
  have hrl := lt_of_block hrow
  have R := Lib.hid hrow
  clear hb3 hbw hbp hrow
  go_wp2_with (fail)
  go_loopw [7, 30] (fun f i wr => ∃ k : Nat, k ≤ L.length ∧ i = .int .i64 k ∧ f = .int .i64 (top L k : Nat) ∧ Below w3.heap.size w3 wr) (fun _ i _ => L.length - (intOf i).toNat)
  case atStart => exact ⟨0, by omega, rfl, rfl, Below.refl _ _⟩
  case round =>
    obtain ⟨k, hk, rfl, rfl, hb⟩ := hrel
    have htl := top_le L k
    by_cases hlt : k < L.length
    · have hsz := hb.size
      obtain ⟨b, o, rfl, hbB, hr, hlen, hone⟩ := H.out.addr k hlt
      obtain ⟨b', o', e', _, hr', _, _⟩ := H.out.addr (top L k) (by omega)
      simp only [Option.some.injEq, Addr.mk.injEq, and_true] at e'
      obtain ⟨rfl, rfl⟩ := e'
      have hbr := hbw3.trans (hb.mono (by have := hbw3.size; omega))
      have hrr := rangeAt_below hbr hbB hr
      have htl2 : top L k < L.length := by omega
      have hbl : b < wr.heap.size := by have := hbr.size; omega
      have c0 : ∀ ob, (wr.alloc ob).cell? ⟨b, o + top L k * 36, none⟩ = some (.string (at' L (top L k)).name) := fun ob => by rw [World.cell?_alloc_past _ _ _ hbl, hbr.cell (p := ⟨b, o + top L k * 36, none⟩) hbB]; exact hr' 0 _ rfl
      have c1 : ∀ ob, (wr.alloc ob).cell? ⟨b, o + top L k * 36 + 1, none⟩ = some (.int .i64 (at' L (top L k)).time) := fun ob => by rw [World.cell?_alloc_past _ _ _ hbl, hbr.cell (p := ⟨b, o + top L k * 36 + 1, none⟩) hbB]; exact hr' 1 _ rfl
      have hisz : (Try.prog.info? 30).map (·.size) = some ((at' L k).cells).length := by rw [hlen]; kernel_rfl
      have hsz2 : (Try.prog.info? 30).map (·.size) = some ((at' L k).cells).toArray.size := by rw [List.size_toArray, hlen]; kernel_rfl
      have ho := all_oneCell_toArray hone
      have hs36 : ((at' L k).cells).toArray.size = 36 := by rw [List.size_toArray, hlen]
      have hta := top_ask L k
      simp only [Sn.cells] at hrr hisz hsz2 ho hs36
      unfold askB at hta
      clear hr hr' hlen hone
      generalize htf : (at' L (top L k)).time = tf at *
      generalize hnf : (at' L (top L k)).name = nf at *
      generalize hti : (at' L k).time = ti at *
      generalize hni : (at' L k).name = ni at *
      clear htf hnf hti hni
      go_wp2_with (first | (refine wpList_load_mid rfl 30 _ rfl b (o + k * 36) rfl _ _ hrr Try.underlying30 rfl hisz ?_) | (refine wpList_store_new rfl 30 _ _ rfl _ _ rfl rfl hs36.symm hsz2 ho ?_))
      go_frame
      rcases Int.lt_trichotomy tf ti with hA | hA | hA
      · have HTA := Lib.hid (show top L (k + 1) = k by rw [hta]; simp [hA])
        clear hta
        go_region
        go_wp2_with (fail)
        go_roundw
        case rel => exact ⟨k + 1, by omega, by go_num, by rw [HTA.out], (hb.alloc (by omega) _).drew⟩
        case measure => simp [intOf]; omega
      · subst hA
        cases hB : Op.bytesLess ni.toList nf.toList
        · have hB' := Lib.hid hB
          have HTA := Lib.hid (show top L (k + 1) = k by rw [hta]; simp [hB])
          clear hta
          go_region
          go_wp2_with (fail)
          go_roundw
          case rel => exact ⟨k + 1, by omega, by go_num, by rw [HTA.out], (hb.alloc (by omega) _).drew⟩
          case measure => simp [intOf]; omega
        · have hB' := Lib.hid hB
          have HTA := Lib.hid (show top L (k + 1) = top L k by rw [hta]; simp [hB])
          clear hta
          go_region
          go_wp2_with (fail)
          go_roundw
          case rel => exact ⟨k + 1, by omega, by go_num, by rw [HTA.out], (hb.alloc (by omega) _).drew⟩
          case measure => simp [intOf]; omega
      · have hA1 : ¬ tf < ti := by omega
        have hA2 : (ti == tf) = false := by simp; omega
        have HTA := Lib.hid (show top L (k + 1) = top L k by rw [hta]; simp [hA1, hA2])
        clear hta
        go_region
        go_wp2_with (fail)
        go_roundw
        case rel => exact ⟨k + 1, by omega, by go_num, by rw [HTA.out], (hb.alloc (by omega) _).drew⟩
        case measure => simp [intOf]; omega
    · obtain rfl : k = L.length := by omega
      obtain ⟨wo, rfl⟩ : ∃ wo : World, wo = wr := ⟨_, rfl⟩
      have hsz := hb.size
      have hbpo := (hb.block _ (lt_of_block hbp3)).trans hbp3
      have hbwo := hbw3.trans (hb.mono (by have := hbw3.size; omega))
      have hro := (hb.block _ hrl).trans R.out
      clear hb hbp3 hbw3
      have hcell : 0 < L.length → wo.cell? ⟨b1, top L L.length, none⟩ = some (.int .i64 (whyM L p 6 (top L L.length) : Nat)) := fun h0 => by
        rw [cell_of_row _ _ _ _ _ _ hro, row_get _ _ _ (top_spec L L.length h0).1]
      have RO := Lib.hid hro
      clear hro
      by_cases h0 : 0 < L.length
      have hc := hcell h0
      have hne : ((whyM L p 6 (top L L.length) : Nat) : Int) ≠ 0 := by have := top_kept L p hok.1 h0; omega
      have hne2 : (((whyM L p 6 (top L L.length) : Nat) : Int) == 0) = false := by simpa using hne
      have htl3 : top L L.length < L.length := (top_spec L L.length h0).1
      clear hcell hne
      go_wp2_with (first | (refine wpList_load_row rfl 23 _ rfl w.heap.size rfl 23 (P6 p) (0, 0) _ hbpo Try.underlying23 rfl (by kernel_rfl) ?_))
      clear hc hne2 htl3
      rotate_left
      have hz : ¬ (0 : Int) < L.length := by omega
      clear hcell
      go_wp2_with (first | (refine wpList_load_row rfl 23 _ rfl w.heap.size rfl 23 (P6 p) (0, 0) _ hbpo Try.underlying23 rfl (by kernel_rfl) ?_))
      clear hz
      all_goals
        clear h0
        refine (numbersR_any p _).mono ?_
        rintro e w5 ⟨⟨b2, rfl, hnum, hbb2⟩, hb5⟩
        have hb5s := hb5.size
        have hbw5 := hbwo.trans (hb5.mono hbwo.size)
        have hr5 := (hb5.block _ (lt_of_block RO.out)).trans RO.out
        have R5 := Lib.hid hr5
        have N5 := Lib.hid hnum
        have hrl5 := lt_of_block hr5
        have hnl5 := lt_of_block hnum
        clear hb5 hr5 hnum hbpo
        go_wp2_with (fail)
        go_loopw [78] (fun i wr => ∃ k : Nat, k ≤ 6 ∧ i = .int .i64 k ∧ Below w5.heap.size w5 wr) (fun i _ => 6 - (intOf i).toNat)
        case atStart => exact ⟨0, by omega, rfl, Below.refl _ _⟩
        case round =>
          obtain ⟨k, hk, rfl, hb6⟩ := hrel
          obtain ⟨wk, rfl⟩ : ∃ wk : World, wk = wr := ⟨_, rfl⟩
          by_cases hlt : k < 6
          · have hpk := hok.1.1 k hlt
            have cn : wk.cell? ⟨b2, k, none⟩ = some (.int .i64 (p k)) := by
              rw [hb6.cell (p := ⟨b2, k, none⟩) hnl5, cell_of_row _ _ _ _ _ _ N5.out]; exact P6_get p k hlt
            go_wp2_with (fail)
            go_loopw [12, 85] (fun c i wr => ∃ j : Nat, j ≤ L.length ∧ i = .int .i64 j ∧ c = .int .i64 (cntK L p k j : Nat) ∧ Below w5.heap.size w5 wr) (fun _ i _ => L.length - (intOf i).toNat)
            case atStart => exact ⟨0, by omega, rfl, rfl, hb6⟩
            case round =>
              obtain ⟨j, hj, rfl, rfl, hb7⟩ := hrel
              by_cases hjl : j < L.length
              · have cw : wr.cell? ⟨b1, j, none⟩ = some (.int .i64 (whyM L p 6 j : Nat)) := by
                  rw [hb7.cell (p := ⟨b1, j, none⟩) hrl5, cell_of_row _ _ _ _ _ _ R5.out, row_get _ _ _ hjl]
                have hbf := bit_form (whyM L p 6 j) k (whyM_lt L p 6 j)
                have hcs := cntK_succ L p k j
                have hcl := cntK_le L p k j
                cases hbt : (whyM L p 6 j).testBit k
                · rw [hbt] at hbf hcs
                  have HCS := Lib.hid hcs
                  have HBT := Lib.hid hbt
                  clear hcs hbt
                  go_wp2_with (fail)
                  go_roundw
                  case rel => exact ⟨j + 1, by omega, by go_num, by rw [HCS.out]; simp, hb7⟩
                  case measure => simp [intOf]; omega
                · rw [hbt] at hbf hcs
                  have HCS := Lib.hid hcs
                  have HBT := Lib.hid hbt
                  clear hcs hbt
                  go_wp2_with (fail)
                  go_roundw
                  case rel => exact ⟨j + 1, by omega, by go_num, by rw [HCS.out]; go_num, hb7⟩
                  case measure => simp [intOf]; omega
              · obtain rfl : j = L.length := by omega
                obtain ⟨wc, rfl⟩ : ∃ wc : World, wc = wr := ⟨_, rfl⟩
                have hkc := kept_count L p k hlt hpk.1
                have hmin : (((cntK L p k L.length : Nat) : Int) != min (p k) ((bucketsN L k : Nat) : Int)) = false := by rw [hkc]; simp
                clear hkc
                have hbwc := hbw5.trans (hb7.mono hbw5.size)
                go_wp2_with (fail)
                refine (buckets_any k a cap L _ (by omega) (by omega) (H.out.below hbwc) hok.2).mono ?_
                rintro e w8 ⟨rfl, hb8⟩
                have hb58 := hb7.trans (hb8.mono hb7.size)
                clear hb8 hb7 hbwc
                go_wp2_with (fail)
                go_loopw [109] (fun i wr => ∃ i' : Nat, i' ≤ L.length ∧ i = .int .i64 i' ∧ Below w5.heap.size w5 wr) (fun i _ => L.length - (intOf i).toNat)
                case atStart => exact ⟨0, by omega, rfl, hb58⟩
                case round =>
                  obtain ⟨i', hi', rfl, hb9⟩ := hrel
                  obtain ⟨wj, rfl⟩ : ∃ wj : World, wj = wr := ⟨_, rfl⟩
                  by_cases hil : i' < L.length
                  · go_wp2_with (fail)
                    go_loopw [114] (fun i wr => ∃ j' : Nat, j' ≤ L.length ∧ i = .int .i64 j' ∧ Below w5.heap.size w5 wr) (fun i _ => L.length - (intOf i).toNat)
                    case atStart => exact ⟨0, by omega, rfl, hb9⟩
                    case round =>
                      obtain ⟨j', hj', rfl, hb10⟩ := hrel
                      by_cases hjl : j' < L.length
                      · obtain ⟨b, o, rfl, hbB, hr, hlen, hone⟩ := H.out.addr i' hil
                        obtain ⟨b', o', e', _, hr', _, _⟩ := H.out.addr j' hjl
                        simp only [Option.some.injEq, Addr.mk.injEq, and_true] at e'
                        obtain ⟨rfl, rfl⟩ := e'
                        have hb10s := hb10.size
                        have hbwr := hbw5.trans (hb10.mono hbw5.size)
                        have ci : wr.cell? ⟨b, o + i' * 36 + 1, none⟩ = some (.int .i64 (at' L i').time) := (hbwr.cell (p := ⟨b, o + i' * 36 + 1, none⟩) hbB).trans (hr 1 _ rfl)
                        have cq : wr.cell? ⟨b, o + j' * 36 + 1, none⟩ = some (.int .i64 (at' L j').time) := (hbwr.cell (p := ⟨b, o + j' * 36 + 1, none⟩) hbB).trans (hr' 1 _ rfl)
                        have ti := hok.2 i' hil
                        have tq := hok.2 j' hjl
                        have hbn : b < wr.heap.size := by have := hbwr.size; omega
                        have cw : wr.cell? ⟨b1, i', none⟩ = some (.int .i64 (whyM L p 6 i' : Nat)) := by
                          rw [hb10.cell (p := ⟨b1, i', none⟩) hrl5, cell_of_row _ _ _ _ _ _ R5.out, row_get _ _ _ hil]
                        have hb1n : b1 < wr.heap.size := by omega
                        have hbf := bit_form (whyM L p 6 i') k (whyM_lt L p 6 i')
                        clear hr hr' hlen hone hmin
                        cases hbt : (whyM L p 6 i').testBit k
                        · rw [hbt] at hbf
                          have HBT := Lib.hid hbt
                          clear hbt
                          go_wp2_with (fail)
                          go_region
                          go_wp2_with (fail)
                          go_roundw
                          case rel => exact ⟨j' + 1, by omega, by go_num, hb10.drew⟩
                          case measure => simp [intOf]; omega
                        · rw [hbt] at hbf
                          have HBT := Lib.hid hbt
                          clear hbt
                          have hb1 := bits_one hbf
                          have hu := wrap_k k hlt
                          have hm64 : k ≤ 64 := by omega
                          clear hbf
                          by_cases hk0 : 0 < k
                          · by_cases hlt2 : (at' L i').time < (at' L j').time
                            · have hkn := kept_newest L p k i' j' (by omega) hpk.1 (by
                                have := HBT.out; rw [whyM_bit] at this; simp only [Bool.and_eq_true, decide_eq_true_eq] at this; exact this.2) hjl hlt2
                              have hsb : sameB (k : Int) (at' L i').time (at' L j').time = false := by
                                unfold sameB; simpa using hkn
                              clear hkn
                              go_wp2_with (fail)
                              go_region_held3 (fun w' => w'.cell? ⟨b, o + i' * 36 + 1, none⟩ = some (.int .i64 (at' L i').time) ∧ w'.cell? ⟨b, o + j' * 36 + 1, none⟩ = some (.int .i64 (at' L j').time) ∧ w'.cell? ⟨b1, i', none⟩ = some (.int .i64 (whyM L p 6 i' : Nat))) (first | go_keep | (exact ⟨(hb3.cell (p := ⟨b, o + i' * 36 + 1, none⟩) (by simp only [World.size_drew]; omega)).trans ci, (hb3.cell (p := ⟨b, o + j' * 36 + 1, none⟩) (by simp only [World.size_drew]; omega)).trans cq, (hb3.cell (p := ⟨b1, i', none⟩) (by simp only [World.size_drew]; omega)).trans cw⟩)) (first | (go_at_call 22; refine (same_any (k : Int) _ _ _ (by omega) (by omega) ti tq).mono ?_; rw [hsb]; rintro e w9 ⟨rfl, hb3⟩))
                              go_wp2_with (fail)
                              go_roundw
                              case rel => exact ⟨j' + 1, by omega, by go_num, hb10.trans (hb3.mono (by simp only [World.size_drew]; omega) |> fun z => ⟨z.os, z.tape, z.output, z.size, z.block⟩)⟩
                              case measure => simp [intOf]; omega
                            · have hlt3 : decide ((at' L i').time < (at' L j').time) = false := by simpa using hlt2
                              go_wp2_with (fail)
                              go_quiet (fail)
                              go_wp2_with (fail)
                              go_roundw
                              case rel => exact ⟨j' + 1, by omega, by go_num, ⟨hb10.os, hb10.tape, hb10.output, hb10.size, hb10.block⟩⟩
                              case measure => simp [intOf]; omega
                          · have hk1 : decide ((0 : Int) < (k : Int)) = false := by simp; omega
                            go_wp2_with (fail)
                            go_quiet (fail)
                            go_wp2_with (fail)
                            go_roundw
                            case rel => exact ⟨j' + 1, by omega, by go_num, ⟨hb10.os, hb10.tape, hb10.output, hb10.size, hb10.block⟩⟩
                            case measure => simp [intOf]; omega
                      · obtain rfl : j' = L.length := by omega
                        go_wp2_with (fail)
                        go_roundw
                        case rel => exact ⟨i' + 1, by omega, by go_num, hb10⟩
                        case measure => simp [intOf]; omega
                  · obtain rfl : i' = L.length := by omega
                    go_wp2_with (fail)
                    go_roundw
                    case rel => exact ⟨k + 1, by omega, by go_num, hb9⟩
                    case measure => simp [intOf]; omega
          · obtain rfl : k = 6 := by omega
            go_wp2_with (fail)
            go_ret
            exact ⟨rfl, hbw5.trans (hb6.mono hbw5.size)⟩
end Go.Proofs.Ytijkadahcggmeaa
