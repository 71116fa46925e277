/- What same, buckets and Numbers answer. -/
import Derived.Test.YtijkadahcggmeaaC6
import Derived.Test.YtijkadahcggmeaaB9
import Derived.Deep.RegionHeld3
namespace Go.Proofs.Ytijkadahcggmeaa
open Go.RowKit Go.Sort Go.Shelf Go.Lib

def sameB (k a b : Int) : Bool := Cal.bkt k a == Cal.bkt k b
theorem same_any (k a b : Int) (w : World) (hk : 1 ≤ k) (hk' : k ≤ 5) (ha : -1099511627776 ≤ a ∧ a ≤ 1099511627776) (hb : -1099511627776 ≤ b ∧ b ≤ 1099511627776) :
    Calls Try.prog 22 #[.int .i64 k, .int .i64 a, .int .i64 b] w fun e w' => e = .returned (.bool (sameB k a b)) ∧ Below w.heap.size w w' := by
  go_enter Try.func22, Try.ntmps22
  go_wp2_with (fail)
  refine (bucket_any k a _ hk hk' ha.1 ha.2).mono ?_; rintro e w1 ⟨rfl, hb1⟩
  go_wp2_with (fail)
  refine (bucket_any k b _ hk hk' hb.1 hb.2).mono ?_; rintro e w2 ⟨rfl, hb2⟩
  go_wp2_with (fail)
  go_ret
  exact ⟨rfl, hb1.trans (hb2.mono hb1.size)⟩

theorem numbersR_any (p : Nat → Int) (w : World) :
    Calls Try.prog 20 #[.agg (P6 p)] w fun e w' => (∃ b, e = .returned (.slice (some ⟨b, 0, none⟩) 6 6) ∧ w'.heap[b]? = some (.cells (P6 p) 3 (0, 0)) ∧ w.heap.size ≤ b) ∧ Below w.heap.size w w' := by
  go_enter Try.func20, Try.ntmps20
  go_wp2_with (fail)
  go_ret
  refine ⟨⟨w.heap.size + 1, rfl, ?_, by omega⟩, ((Below.refl _ _).alloc (Nat.le_refl _) _).alloc (by simp) _⟩
  have h := heap_alloc_new (w.alloc (.cells (P6 p) 23)) (.cells (P6 p) 3)
  rwa [World.size_alloc] at h

/-- No bucket of those ahead of j is i's. -/
def freeB (g : Nat → Int) (i j : Nat) : Bool := (List.range j).all fun x => !(decide (g x = g i))
theorem freeB_succ (g : Nat → Int) (i j : Nat) : freeB g i (j + 1) = (freeB g i j && !(decide (g j = g i))) := by
  unfold freeB; rw [List.range_succ, List.all_append]; simp
theorem freeB_all (g : Nat → Int) (i : Nat) : freeB g i i = newB g i := rfl
theorem cntB_succ (g : Nat → Int) (n : Nat) : cntB g (n + 1) = cntB g n + (if newB g n then 1 else 0) := by
  unfold cntB; rw [List.range_succ, List.filter_append, List.length_append]
  cases h : newB g n <;> simp [h]
theorem cntB_le (g : Nat → Int) (n : Nat) : cntB g n ≤ n := by
  have := List.length_filter_le (newB g) (List.range n); simpa [cntB] using this

theorem buckets_zero (a : Option Addr) (n cap : Nat) (w : World) : Calls Try.prog 21 #[.int .i64 0, .slice a n cap] w fun e w' => e = .returned (.int .i64 n) ∧ w = w' := by
  go_enter Try.func21, Try.ntmps21
  go_wp2_with (fail)
  go_ret
  exact ⟨rfl, rfl⟩

set_option maxRecDepth 100000 in
set_option maxHeartbeats 1000000 in
theorem buckets_some (k : Nat) (a : Option Addr) (cap : Nat) (L : List Sn) (w : World) (hk : 1 ≤ k) (hk5 : k ≤ 5) (hL : L.length ≤ 1000) (h : SN w a L w.heap.size) (ht : TimesOk L) :
    Calls Try.prog 21 #[.int .i64 k, .slice a L.length cap] w fun e w' => e = .returned (.int .i64 (cntB (bk L k) L.length : Nat)) ∧ Below w.heap.size w w' := by
  have H := Lib.hid h
  have HT := Lib.hid ht
  have hk0 : ((k : Int) == 0) = false := by simp; omega
  clear h ht
  go_enter Try.func21, Try.ntmps21
  go_wp2_with (fail)
  go_loopw [5, 15] (fun c i wr => ∃ j : Nat, j ≤ L.length ∧ i = .int .i64 j ∧ c = .int .i64 (cntB (bk L k) j : Nat) ∧ Below w.heap.size w wr) (fun _ i _ => L.length - (intOf i).toNat)
  case atStart => exact ⟨0, by omega, rfl, rfl, Below.refl _ _⟩
  case round =>
    obtain ⟨i, hi, rfl, rfl, hb⟩ := hrel
    have hcl := cntB_le (bk L k) i
    obtain ⟨wo, rfl⟩ : ∃ wo : World, wo = wr := ⟨_, rfl⟩
    by_cases hlt : i < L.length
    · go_wp2_with (fail)
      go_loopw [7, 8] (fun f j wr => ∃ q : Nat, q ≤ i ∧ j = .int .i64 q ∧ f = .bool (freeB (bk L k) i q) ∧ Below w.heap.size w wr) (fun _ j _ => i - (intOf j).toNat)
      case atStart => exact ⟨0, by omega, rfl, rfl, hb⟩
      case round =>
        obtain ⟨q, hq, rfl, rfl, hb2⟩ := hrel
        by_cases hqi : q < i
        · obtain ⟨b, o, rfl, hbB, hr, hlen, hone⟩ := H.out.addr i hlt
          obtain ⟨b', o', e', _, hr', _, _⟩ := H.out.addr q (by omega)
          simp only [Option.some.injEq, Addr.mk.injEq, and_true] at e'
          obtain ⟨rfl, rfl⟩ := e'
          have ci : wr.cell? ⟨b, o + i * 36 + 1, none⟩ = some (.int .i64 (at' L i).time) := (hb2.cell (p := ⟨b, o + i * 36 + 1, none⟩) hbB).trans (hr 1 _ rfl)
          have cq : wr.cell? ⟨b, o + q * 36 + 1, none⟩ = some (.int .i64 (at' L q).time) := (hb2.cell (p := ⟨b, o + q * 36 + 1, none⟩) hbB).trans (hr' 1 _ rfl)
          have ti := HT.out i hlt
          have tq := HT.out q (by omega)
          have hfs := freeB_succ (bk L k) i q
          have ebi : bk L k i = Cal.bkt k (at' L i).time := by unfold bk; rw [if_neg (by omega)]
          have ebq : bk L k q = Cal.bkt k (at' L q).time := by unfold bk; rw [if_neg (by omega)]
          have hqL : (q : Int) < (L.length : Int) := by omega
          have hqL2 : q < L.length := by omega
          have HF := Lib.hid hfs
          have HI := Lib.hid ebi
          have HQ := Lib.hid ebq
          have hb2s := hb2.size
          clear hr hr' hlen hone hfs ebi ebq
          cases hfr : freeB (bk L k) i q
          · have HFR := Lib.hid hfr
            clear hfr
            go_wp2_with (fail)
            go_region
            go_wp2_with (fail)
            go_roundw
            case rel => exact ⟨q + 1, by omega, by go_num, by rw [HF.out, HFR.out]; rfl, hb2.drew⟩
            case measure => simp [intOf]; omega
          · have HFR := Lib.hid hfr
            clear hfr
            go_wp2_with (fail)
            go_region_held3 (fun w' => w'.cell? ⟨b, o + i * 36 + 1, none⟩ = some (.int .i64 (at' L i).time) ∧ w'.cell? ⟨b, o + q * 36 + 1, none⟩ = some (.int .i64 (at' L q).time)) (first | go_keep | (exact ⟨(hb3.cell (p := ⟨b, o + i * 36 + 1, none⟩) (by simp only [World.size_drew]; omega)).trans ci, (hb3.cell (p := ⟨b, o + q * 36 + 1, none⟩) (by simp only [World.size_drew]; omega)).trans cq⟩)) (first | (go_at_call 22; refine (same_any (k : Int) _ _ _ (by omega) (by omega) ti tq).mono ?_; rintro e w5 ⟨rfl, hb3⟩))
            go_wp2_with (fail)
            go_roundw
            case rel =>
              refine ⟨q + 1, by omega, by go_num, ?_, hb2.trans (hb3.mono (by simp only [World.size_drew]; omega) |> fun z => ⟨z.os, z.tape, z.output, z.size, z.block⟩)⟩
              rw [HF.out, HFR.out, HI.out, HQ.out]
              unfold sameB
              by_cases e : Cal.bkt (k : Int) (at' L i).time = Cal.bkt (k : Int) (at' L q).time
              · simp [e]
              · simp [e, Ne.symm e]
            case measure => simp [intOf]; omega
        · obtain rfl : q = i := by omega
          rw [freeB_all]
          have hcs := cntB_succ (bk L k) q
          cases hnb : newB (bk L k) q
          · rw [hnb] at hcs
            have HCS := Lib.hid hcs
            have HNB := Lib.hid hnb
            clear hcs hnb
            go_wp2_with (fail)
            go_roundw
            case rel => exact ⟨q + 1, by omega, by go_num, by rw [HCS.out]; simp, hb2⟩
            case measure => simp [intOf]; omega
          · rw [hnb] at hcs
            have HCS := Lib.hid hcs
            have HNB := Lib.hid hnb
            clear hcs hnb
            go_wp2_with (fail)
            go_roundw
            case rel => exact ⟨q + 1, by omega, by go_num, by rw [HCS.out]; go_num, hb2⟩
            case measure => simp [intOf]; omega
    · obtain rfl : i = L.length := by omega
      go_wp2_with (fail)
      go_ret
      exact ⟨rfl, hb⟩
end Go.Proofs.Ytijkadahcggmeaa
