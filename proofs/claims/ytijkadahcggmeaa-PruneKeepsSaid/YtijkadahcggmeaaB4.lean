/- What newest answers: the places from the newest on. -/
import Derived.Test.YtijkadahcggmeaaC2
import Derived.Test.YtijkadahcggmeaaShelf
import Derived.Deep.MidRow
import Derived.Sort.Walk0
namespace Go.Proofs.Ytijkadahcggmeaa
open Go.RowKit Go.Sort Go.Shelf Go.Lib

theorem cmpI_neg (a b : Int) : cmpI a b < 0 ↔ a < b := by unfold cmpI; split <;> (try split) <;> omega
theorem cmpI_zero (a b : Int) : cmpI a b = 0 ↔ a = b := by unfold cmpI; split <;> (try split) <;> omega
theorem cmpS_neg (a b : ByteArray) : cmpS a b < 0 ↔ a.toList < b.toList := by
  unfold cmpS; rw [bytesLess_eq]
  by_cases h : a.toList < b.toList
  · simp [h]
  · by_cases e : a.toList = b.toList
    · rw [e] at h; simp [h, e]
    · simp [h, e]
theorem cmpS_zero (a b : ByteArray) : cmpS a b = 0 ↔ a.toList = b.toList := by
  unfold cmpS; rw [bytesLess_eq]
  by_cases h : a.toList < b.toList
  · simp [h]; intro e; rw [e] at h; exact List.lt_irrefl _ h
  · by_cases e : a.toList = b.toList
    · rw [e] at h; simp [h, e]
    · simp [h, e]
theorem or3_neg (a b c : Int) : or3 a b c < 0 ↔ a < 0 ∨ (a = 0 ∧ (b < 0 ∨ (b = 0 ∧ c < 0))) := by
  unfold or3; split
  · omega
  · split <;> omega

/-- x comes ahead of y. -/
def Nwr (L : List Sn) (x y : Nat) : Prop :=
  (at' L y).time < (at' L x).time ∨ ((at' L y).time = (at' L x).time ∧ ((at' L y).name.toList < (at' L x).name.toList ∨ ((at' L y).name.toList = (at' L x).name.toList ∧ y < x)))
theorem lt_iff (L : List Sn) (x y : Nat) : lt L x y = true ↔ Nwr L x y := by
  unfold lt cf cfI Nwr
  rw [decide_eq_true_iff, or3_neg, cmpI_neg, cmpI_zero, cmpS_neg, cmpS_zero, cmpI_neg]
  simp only [Int.ofNat_lt]
theorem Nwr.irrefl (L : List Sn) (x : Nat) : ¬ Nwr L x x := by
  rintro (h | ⟨_, h | ⟨_, h⟩⟩)
  · omega
  · exact List.lt_irrefl _ h
  · omega
theorem Nwr.trans {L : List Sn} {x y z : Nat} (h : Nwr L x y) (k : Nwr L y z) : Nwr L x z := by
  rcases h with h | ⟨h, h2 | ⟨h2, h3⟩⟩ <;> rcases k with k | ⟨k, k2 | ⟨k2, k3⟩⟩
  · exact .inl (by omega)
  · exact .inl (by omega)
  · exact .inl (by omega)
  · exact .inl (by omega)
  · exact .inr ⟨by omega, .inl (List.lt_trans k2 h2)⟩
  · exact .inr ⟨by omega, .inl (by rw [k2]; exact h2)⟩
  · exact .inl (by omega)
  · exact .inr ⟨by omega, .inl (by rw [← h2]; exact k2)⟩
  · exact .inr ⟨by omega, .inr ⟨by rw [k2, h2], by omega⟩⟩
theorem Nwr.total (L : List Sn) (x y : Nat) : Nwr L x y ∨ x = y ∨ Nwr L y x := by
  unfold Nwr
  rcases Int.lt_trichotomy (at' L x).time (at' L y).time with h | h | h
  · exact .inr (.inr (.inl h))
  · by_cases h1 : (at' L x).name.toList < (at' L y).name.toList
    · exact .inr (.inr (.inr ⟨h, .inl h1⟩))
    · by_cases h2 : (at' L y).name.toList < (at' L x).name.toList
      · exact .inl (.inr ⟨h.symm, .inl h2⟩)
      · have e : (at' L x).name.toList = (at' L y).name.toList := List.le_antisymm (List.not_lt.1 h2) (List.not_lt.1 h1)
        rcases Nat.lt_trichotomy x y with g | g | g
        · exact .inr (.inr (.inr ⟨h, .inr ⟨e, g⟩⟩))
        · exact .inr (.inl g)
        · exact .inl (.inr ⟨h.symm, .inr ⟨e.symm, g⟩⟩)
  · exact .inl (.inl h)

abbrev Ix (n : Nat) := { i : Nat // i < n }
def cfx (L : List Sn) (x y : Ix L.length) : Int := cf L x.1 y.1
def encx (n : Nat) (x : Ix n) : Value := .int .i64 (x.1 : Int)
theorem ltx (L : List Sn) (x y : Ix L.length) : ltOf (cfx L) x y = lt L x.1 y.1 := rfl
theorem swo (L : List Sn) : SWO (ltOf (cfx L)) where
  irrefl x := by rw [ltx, Bool.eq_false_iff, ne_eq, lt_iff]; exact Nwr.irrefl L x.1
  trans x y z h1 h2 := by rw [ltx, lt_iff] at *; exact h1.trans h2
  ntrans x y z h1 h2 := by
    rw [ltx, Bool.eq_false_iff, ne_eq, lt_iff] at *
    intro h
    rcases Nwr.total L x.1 y.1 with a | a | a
    · exact h1 a
    · rw [a] at h; exact h2 h
    · exact h2 (a.trans h)
theorem tot (L : List Sn) (x y : Ix L.length) (h1 : ltOf (cfx L) x y = false) (h2 : ltOf (cfx L) y x = false) : x = y := by
  rw [ltx, Bool.eq_false_iff, ne_eq, lt_iff] at *
  rcases Nwr.total L x.1 y.1 with a | a | a
  · exact absurd a h1
  · exact Subtype.ext a
  · exact absurd a h2

def allx (n : Nat) : List (Ix n) := (List.range n).attach.map fun x => ⟨x.1, by simpa using x.2⟩
theorem allx_val (n : Nat) : (allx n).map (·.1) = List.range n := by simp [allx]
theorem sorted_val (L : List Sn) : ((allx L.length).mergeSort (fun x y => !(ltOf (cfx L)) y x)).map (·.1) = ord L := by
  unfold ord
  rw [← allx_val, List.map_mergeSort]
  intro a _ b _; rfl

theorem holdsx {w : World} {g : Nat} {n : Nat} {cur : Array Value} (hn : 0 < n) (hg : w.heap[g]? = some (.cells cur 3 (0, 0))) (hc : cur.toList.take n = (List.range n).map fun i : Nat => Value.int .i64 (i : Int)) (_hcap : n ≤ cur.size) :
    @Holds (Ix n) ⟨⟨0, hn⟩⟩ (encx n) w g 0 (allx n).toArray := by
  letI : Inhabited (Ix n) := ⟨⟨0, hn⟩⟩
  intro j hj
  have hj' : j < n := by simpa [allx] using hj
  refine ⟨?_, frozen_of_row w g _ cur 3 hg⟩
  rw [cell_of_row w g _ cur 3 _ hg]
  have h1 : (cur.toList.take n)[j]? = some (.int .i64 (j : Int)) := by rw [hc]; simp [hj']
  rw [List.getElem?_take, if_pos hj', Array.getElem?_toList] at h1
  rw [Nat.zero_add, h1]
  have h2 : (allx n).toArray[j]! = ⟨j, hj'⟩ := by
    rw [getElem!_pos _ j (by simpa [allx] using hj')]
    simp [allx]
  rw [h2]; rfl

abbrev ints (n : Nat) : List Value := (List.range n).map fun i : Nat => Value.int .i64 (i : Int)
/-- A slice value that holds these snapshots. -/
structure SN (w : World) (a : Option Addr) (L : List Sn) (B : Nat) : Prop where
  addr : ∀ i, i < L.length → ∃ b o, a = some ⟨b, o, none⟩ ∧ b < B ∧ w.rangeAt b (o + i * 36) (at' L i).cells ∧ ((at' L i).cells).length = 36 ∧ (∀ v ∈ (at' L i).cells, v.oneCell' = true)
theorem SN.below {w w' : World} {a : Option Addr} {L : List Sn} (h : SN w a L w.heap.size) (hb : Below w.heap.size w w') : SN w' a L w'.heap.size :=
  ⟨fun i hi => by
    obtain ⟨b, o, e, hB, hr, h1, h2⟩ := h.addr i hi
    exact ⟨b, o, e, Nat.lt_of_lt_of_le hB hb.size, fun j v hj => (hb.cell (p := ⟨b, o + i * 36 + j, none⟩) hB).trans (hr j v hj), h1, h2⟩⟩

theorem sw_block {α : Type} [Inhabited α] (enc : α → Value) (w : World) (blk off m : Nat) (dk : Array α) (os : Array Obj) (b : Nat) (hb : b ≠ blk) (hs : b < w.heap.size) :
    (sortWorld enc w blk off m dk os).heap[b]? = w.heap[b]? := by
  unfold sortWorld
  rw [heap_grow_old _ _ (by simpa using hs)]
  show (w.heap.modify blk _)[b]? = _
  rw [Array.getElem?_modify, if_neg (by omega)]
theorem sw_below {α : Type} [Inhabited α] (enc : α → Value) (w : World) (blk off m : Nat) (dk : Array α) (os : Array Obj) (B : Nat) (hB : B ≤ blk) (hs : B ≤ w.heap.size) :
    RowKit.Below B w (sortWorld enc w blk off m dk os) :=
  ⟨rfl, rfl, rfl, by unfold sortWorld; simp, fun k hk => sw_block enc w blk off m dk os k (by omega) (by omega)⟩

theorem sort_any (u : Value) (a : Option Addr) (cap g : Nat) (L : List Sn) (w : World) (hL : L.length ≤ 1000) (hown : w.ownsRow (g + 1) 3 1 u L.length (ints L.length))
    (hg : w.cell? ⟨g, 0, none⟩ = some (.slice a L.length cap)) (h : SN w a L g) :
    Calls Try.prog 36 #[u, .func (.func 37) #[] #[.pointer (some ⟨g, 0, none⟩)]] w fun e w' => e = .returned (.tuple #[]) ∧ (∃ a' cap', u = .slice a' L.length cap' ∧
      ∀ j (hj : j < (ord L).length), ∃ b o, a' = some ⟨b, o, none⟩ ∧ g < b ∧ w'.cell? ⟨b, o + j, none⟩ = some (.int .i64 ((ord L)[j] : Nat))) ∧ Below (g + 1) w w' := by
  have hgs := block_lt_of_cell hg
  by_cases hn : L.length = 0
  · have hv : ∃ a' cap', u = .slice a' 0 cap' := by
      rcases hown.2 with ⟨h1, _⟩ | ⟨b, c, cur, h1, _⟩
      · exact ⟨none, 0, h1⟩
      · rw [hn] at h1; exact ⟨_, c, h1⟩
    obtain ⟨a', cap', rfl⟩ := hv
    refine (Try.slices_SortFunc_none (α := Nat) a' cap' _ w).mono ?_
    rintro e w' ⟨rfl, rfl⟩
    exact ⟨rfl, ⟨a', cap', by rw [hn], fun j hj => absurd hj (by rw [ord_length]; omega)⟩, Below.refl _ _⟩
  · have hn' : 0 < L.length := by omega
    letI : Inhabited (Ix L.length) := ⟨⟨0, hn'⟩⟩
    rcases hown with ⟨_, ⟨_, h1⟩ | ⟨blk, c, cur, rfl, hbg, hcur, hc1, hc2, hc3, hc4⟩⟩
    · exact absurd h1 hn
    · have hH : Holds (encx L.length) w blk 0 (allx L.length).toArray := holdsx hn' hcur (by rw [Nat.mul_one] at hc4; exact hc4) (by omega)
      have hblk := lt_of_block hcur
      have hsz : (allx L.length).toArray.size = L.length := by simp [allx]
      have eg : ∀ args w, (callFunc 37 args).run Try.prog w = .ok (.enter 37 args) w := enters_of Try.func37 (by kernel_rfl) rfl
      have hcmp : CmpLays1 Try.prog 37 #[.pointer (some ⟨g, 0, none⟩)] (encx L.length) (cfx L) blk 0 (allx L.length).toArray.size w := by
        intro m os dk _ x y
        have old : ∀ b, b ≠ blk → b < w.heap.size → ∀ o, (sortWorld (encx L.length) w blk 0 m dk os).cell? ⟨b, o, none⟩ = w.cell? ⟨b, o, none⟩ := fun b h1 h2 o =>
          World.cell?_of_block (a := ⟨b, o, none⟩) (sw_block (encx L.length) w blk 0 m dk os b h1 h2)
        obtain ⟨bx, ox, rfl, hbx, hrx, _, _⟩ := h.addr x.1 x.2
        obtain ⟨by', oy, ey, hby, hry, _, _⟩ := h.addr y.1 y.2
        simp only [Option.some.injEq, Addr.mk.injEq, and_true] at ey
        obtain ⟨rfl, rfl⟩ := ey
        refine (closure_any g bx ox L.length cap x.1 y.1 (at' L x.1).time (at' L y.1).time (at' L x.1).name (at' L y.1).name _ x.2 y.2 hL ?_ ?_ ?_ ?_ ?_).mono ?_
        · rw [old g (by omega) hgs]; exact hg
        · rw [old bx (by omega) (by omega)]; exact hrx 1 _ rfl
        · rw [old bx (by omega) (by omega)]; exact hry 1 _ rfl
        · rw [old bx (by omega) (by omega)]; exact hrx 0 _ rfl
        · rw [old bx (by omega) (by omega)]; exact hry 0 _ rfl
        · rintro e w' ⟨rfl, o, rfl⟩
          refine ⟨rfl, 1, #[o], ?_⟩
          rw [alloc_eq_grow]; rfl
      have hc := Try.slices_SortFunc_total (encx L.length) (fun _ => rfl) (cfx L) (swo L) 37 #[.pointer (some ⟨g, 0, none⟩)] blk 0 c (allx L.length).toArray w eg hcmp hH hblk (by omega) (tot L)
      rw [hsz] at hc
      refine hc.mono ?_
      rintro e w' ⟨rfl, n, os, rfl⟩
      refine ⟨rfl, ⟨_, c, rfl, fun j hj => ⟨blk, 0, rfl, by omega, ?_⟩⟩, sw_below _ _ _ _ _ _ _ _ hbg (by omega)⟩
      have hp := holds_sortWorld (encx L.length) w blk 0 n _ ((allx L.length).toArray.toList.mergeSort (fun x y => !(ltOf (cfx L)) y x)).toArray os hblk hH (by simp)
      have hj2 : j < L.length := by rw [ord_length] at hj; exact hj
      have hj3 : j < ((allx L.length).mergeSort (fun x y => !(ltOf (cfx L)) y x)).length := by simp [allx, hj2]
      rw [(hp j (by simpa [allx] using hj2)).1]
      have e1 : (((allx L.length).toArray.toList.mergeSort (fun x y => !(ltOf (cfx L)) y x)).toArray)[j]! = ((allx L.length).mergeSort (fun x y => !(ltOf (cfx L)) y x))[j] := by
        rw [getElem!_pos _ j (by simpa [allx] using hj2)]; simp
      rw [e1]
      have e2 : (ord L)[j] = (((allx L.length).mergeSort (fun x y => !(ltOf (cfx L)) y x))[j]).1 := by
        have := sorted_val L
        simp only [← this, List.getElem_map]
      rw [e2]; rfl

theorem info3' : (Try.prog.info? 3).map (fun i => (i.zero, i.size, i.bytes)) = some (some (.int .i64 0), 1, 8) := by kernel_rfl

set_option maxRecDepth 100000 in
set_option maxHeartbeats 1000000 in
theorem newest_any (a : Option Addr) (cap : Nat) (L : List Sn) (w : World) (hL : L.length ≤ 1000) (h : SN w a L w.heap.size) :
    Calls Try.prog 26 #[.slice a L.length cap] w fun e w' => (∃ a' cap', e = .returned (.slice a' L.length cap') ∧
      ∀ j (hj : j < (ord L).length), ∃ b o, a' = some ⟨b, o, none⟩ ∧ w.heap.size ≤ b ∧ w'.cell? ⟨b, o + j, none⟩ = some (.int .i64 ((ord L)[j] : Nat))) ∧ Below w.heap.size w w' := by
  obtain ⟨i0, hi0, hz0, hz1, hz2⟩ := info_parts info3'
  have hmf : ∀ (fn : Fn) (first cap : Array Value) (w : World), (Instr.makeFunc fn first cap).run Try.prog w = .ok (.func fn first cap) w := fun _ _ _ _ => rfl
  have H := Lib.hid h
  clear h
  go_enter Try.func26, Try.ntmps26
  go_wp2_with (fail)
  go_loopw [3, 7] (fun v i wr => ∃ k : Nat, k ≤ L.length ∧ i = .int .i64 k ∧ wr.ownsRow (w.heap.size + 1) 3 1 v k (ints k) ∧ Below (w.heap.size + 1) (w.alloc (.cells #[.slice a L.length cap] 24)) wr) (fun _ i _ => L.length - (intOf i).toNat)
  case atStart => exact ⟨0, by omega, rfl, World.ownsRow_nil _ _ _ _, Below.refl _ _⟩
  case round =>
    obtain ⟨k, hk, rfl, hown, hb⟩ := hrel
    by_cases hlt : k < L.length
    · have hsz := hb.size
      rw [World.size_alloc] at hsz
      go_wp2_with (at_builtin; refine wpList_append_own _ rfl _ _ 32 rfl (w.heap.size + 1) 3 i0 (.int .i64 0) 1 8 Try.underlying32 hi0 hz0 hz1 hz2 rfl (by decide) _ _ _ rfl (hown.alloc _) ⟨wr.heap.size, 0, none⟩ 1 1 [.int .i64 (k : Int)] rfl rfl ?c1 ?c2 ?c3 ?c4 ?c5 ?_)
      case c1 => exact cell_one_new _ _ _
      case c2 => intro u hu; simp at hu; subst hu; rfl
      case c3 => unfold maxLen; omega
      case c4 => omega
      case c5 => simp; omega
      intro v' w1 hown1 hgrow _
      have hown2 : w1.ownsRow (w.heap.size + 1) 3 1 v' (k + 1) (ints (k + 1)) := by
        have e : ints (k + 1) = ints k ++ [.int .i64 (k : Int)] := by simp [ints, List.range_succ]
        rw [e]; exact hown1
      have hb1 : Below (w.heap.size + 1) (w.alloc (.cells #[.slice a L.length cap] 24)) w1 := (hb.alloc (by omega) _).grown hgrow (by simp; omega) (fun q hq => (hown.lt q hq).1)
      clear hown1 hgrow hown hb
      go_wp2_with (fail)
      go_roundw
      case rel => exact ⟨k + 1, by omega, by go_num, hown2, hb1⟩
      case measure => simp [intOf]; omega
    · obtain rfl : k = L.length := by omega
      obtain ⟨wo, rfl⟩ : ∃ wo : World, wo = wr := ⟨_, rfl⟩
      go_wp2_with (fail)
      have hgc : wo.cell? ⟨w.heap.size, 0, none⟩ = some (.slice a L.length cap) := by
        rw [hb.cell (p := ⟨w.heap.size, 0, none⟩) (by simp)]; exact cell_of_one (heap_alloc_new _ _)
      have hb0 : Below w.heap.size w wo := ((Below.refl _ _).alloc (Nat.le_refl _) _).trans (hb.mono (by omega))
      have hSN : SN wo a L w.heap.size := ⟨fun i hi => by
        obtain ⟨b, o, e, hB, hr, h1, h2⟩ := H.out.addr i hi
        exact ⟨b, o, e, hB, fun j v hj => (hb0.cell (p := ⟨b, o + i * 36 + j, none⟩) hB).trans (hr j v hj), h1, h2⟩⟩
      refine (sort_any u3 a cap w.heap.size L wo hL hown hgc hSN).mono ?_
      rintro e w' ⟨rfl, ⟨a', cap', rfl, hcell⟩, hb'⟩
      have HC := Lib.hid hcell
      have HB := Lib.hid (hb0.trans (hb'.mono (by omega)))
      clear hcell hb' hb0 hb hown hgc hSN
      go_wp2_with (fail)
      go_ret
      refine ⟨⟨a', cap', rfl, fun j hj => ?_⟩, HB.out⟩
      obtain ⟨b, o, e, hlt, hc⟩ := HC.out j hj
      exact ⟨b, o, e, by omega, hc⟩
end Go.Proofs.Ytijkadahcggmeaa
