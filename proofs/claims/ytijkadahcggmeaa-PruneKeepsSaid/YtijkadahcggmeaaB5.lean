/- What Keep and Gone answer. -/
import Derived.Test.YtijkadahcggmeaaB3
import Derived.Sort.EncStr
namespace Go.Proofs.Ytijkadahcggmeaa
open Go.RowKit Go.Sort Go.Shelf Go.Lib

def keepB (L : List Sn) (p : Nat → Int) (i : Nat) : Bool := ((whyM L p 6 i : Nat) : Int) != 0
def keepV (L : List Sn) (p : Nat → Int) (n : Nat) : List Value := (List.range n).map fun i => .bool (keepB L p i)
theorem keepV_succ (L : List Sn) (p : Nat → Int) (n : Nat) : keepV L p (n + 1) = keepV L p n ++ [.bool (keepB L p n)] := by simp [keepV, List.range_succ]
theorem ownsRow_base {w : World} {b b' : Nat} {e : TypeId} {size : Nat} {v : Value} {n : Nat} {xs : List Value} (h : w.ownsRow b e size v n xs) (hb : b' ≤ b) : w.ownsRow b' e size v n xs := by
  refine ⟨h.1, ?_⟩
  rcases h.2 with h2 | ⟨g, cap, cur, hv, hg, r⟩
  · exact .inl h2
  · exact .inr ⟨g, cap, cur, hv, Nat.le_trans hb hg, r⟩
theorem info4 : (Try.prog.info? 4).map (fun i => (i.zero, i.size, i.bytes)) = some (some (.bool false), 1, 1) := by kernel_rfl
theorem info9 : (Try.prog.info? 9).map (fun i => (i.zero, i.size, i.bytes)) = some (some (.string ⟨#[]⟩), 1, 16) := by kernel_rfl

set_option maxRecDepth 100000 in
set_option maxHeartbeats 1000000 in
theorem keep_ok (p : Nat → Int) (a : Option Addr) (cap : Nat) (L : List Sn) (w : World) (hp : PolOk p) (hL : L.length ≤ 1000) (h : SN w a L w.heap.size) (ht : TimesOk L) :
    Calls Try.prog 14 #[.agg (P6 p), .slice a L.length cap] w fun e w' => (∃ v, e = .returned (.tuple #[v, .nilIface]) ∧
      w'.ownsRow w.heap.size 4 1 v L.length (keepV L p L.length)) ∧ Below w.heap.size w w' := by
  obtain ⟨i0, hi0, hz0, hz1, hz2⟩ := info_parts info4
  have H := Lib.hid h
  clear h
  go_enter Try.func14, Try.ntmps14
  go_wp2_with (fail)
  refine (why_ok p a cap L _ hp hL (H.out.below ((Below.refl _ _).alloc (Nat.le_refl _) _)) ht).mono ?_
  rintro e w1 ⟨⟨b, rfl, hrow, hbb⟩, hb1⟩
  have hs1 := hb1.size
  rw [World.size_alloc] at hs1
  have hbl := lt_of_block hrow
  have hbw : Below w.heap.size w w1 := ((Below.refl _ _).alloc (Nat.le_refl _) _).trans (hb1.mono (by simp))
  clear hb1
  go_wp2_with (fail)
  go_loopw [8, 22] (fun v i wr => ∃ k : Nat, k ≤ L.length ∧ i = .int .i64 k ∧ wr.ownsRow w1.heap.size 4 1 v k (keepV L p k) ∧ Below w1.heap.size w1 wr) (fun _ i _ => L.length - (intOf i).toNat)
  case atStart => exact ⟨0, by omega, rfl, World.ownsRow_nil _ _ _ _, Below.refl _ _⟩
  case round =>
    obtain ⟨k, hk, rfl, hown, hb⟩ := hrel
    by_cases hlt : k < L.length
    · have hsz := hb.size
      have hc : wr.cell? ⟨b, k, none⟩ = some (.int .i64 (whyM L p 6 k : Nat)) := by
        rw [hb.cell (p := ⟨b, k, none⟩) hbl, cell_of_row _ _ _ _ _ _ hrow, row_get _ _ _ hlt]
      have HR := Lib.hid hrow
      clear hrow
      go_wp2_with (at_builtin; refine wpList_append_own _ rfl _ _ 44 rfl w1.heap.size 4 i0 (.bool false) 1 1 Try.underlying44 hi0 hz0 hz1 hz2 rfl (by decide) _ _ _ rfl (hown.alloc _) ⟨wr.heap.size, 0, none⟩ 1 1 [.bool (keepB L p k)] rfl rfl ?c1 ?c2 ?c3 ?c4 ?c5 ?_)
      case c1 => exact cell_one_new _ _ _
      case c2 => intro u hu; simp at hu; subst hu; rfl
      case c3 => unfold maxLen; omega
      case c4 => omega
      case c5 => simp; omega
      intro v' w2 hown1 hgrow _
      have hown2 : w2.ownsRow w1.heap.size 4 1 v' (k + 1) (keepV L p (k + 1)) := by rw [keepV_succ]; exact hown1
      have hb2 : Below w1.heap.size w1 w2 := (hb.alloc (by omega) _).grown hgrow (by simp; omega) (fun q hq => (hown.lt q hq).1)
      clear hown1 hgrow hown hb
      go_wp2_with (fail)
      go_roundw
      case rel => exact ⟨k + 1, by omega, by go_num, hown2, hb2⟩
      case measure => simp [intOf]; omega
    · obtain rfl : k = L.length := by omega
      have HO := Lib.hid hown
      have HB := Lib.hid hb
      clear hown hb hrow
      go_wp2_with (fail)
      go_ret2
      exact ⟨⟨_, rfl, ownsRow_base HO.out (by omega)⟩, hbw.trans (HB.out.mono (by omega))⟩

set_option maxHeartbeats 1000000 in
theorem keep_err (p : Nat → Int) (a : Option Addr) (cap : Nat) (L : List Sn) (w : World) (hL : L.length ≤ 1000) (h : SN w a L w.heap.size) (hbad : ¬ (PolOk p ∧ TimesOk L)) :
    Calls Try.prog 14 #[.agg (P6 p), .slice a L.length cap] w fun e w' => IsErr e (.slice none 0 0) ∧ Below w.heap.size w w' := by
  have H := Lib.hid h
  clear h
  go_enter Try.func14, Try.ntmps14
  go_wp2_with (fail)
  refine (why_err p a cap L _ hL (H.out.below ((Below.refl _ _).alloc (Nat.le_refl _) _)) hbad).mono ?_
  rintro e w1 ⟨⟨c, hc, rfl⟩, hb1⟩
  have hc' := Lib.hid hc
  clear hc
  go_wp2_with (fail)
  go_ret2
  exact ⟨⟨c, hc'.out, rfl⟩, ((Below.refl _ _).alloc (Nat.le_refl _) _).trans (hb1.mono (by simp))⟩

set_option maxHeartbeats 1000000 in
theorem gone_err (p : Nat → Int) (a : Option Addr) (cap : Nat) (L : List Sn) (w : World) (hL : L.length ≤ 1000) (h : SN w a L w.heap.size) (hbad : ¬ (PolOk p ∧ TimesOk L)) :
    Calls Try.prog 12 #[.agg (P6 p), .slice a L.length cap] w fun e w' => IsErr e (.slice none 0 0) ∧ Below w.heap.size w w' := by
  have H := Lib.hid h
  clear h
  go_enter Try.func12, Try.ntmps12
  go_wp2_with (fail)
  refine (keep_err p a cap L _ hL (H.out.below ((Below.refl _ _).alloc (Nat.le_refl _) _)) hbad).mono ?_
  rintro e w1 ⟨⟨c, hc, rfl⟩, hb1⟩
  have hc' := Lib.hid hc
  clear hc
  go_wp2_with (fail)
  go_ret2
  exact ⟨⟨c, hc'.out, rfl⟩, ((Below.refl _ _).alloc (Nat.le_refl _) _).trans (hb1.mono (by simp))⟩

/-- The names that go, in the order of the list. -/
def goneN (L : List Sn) (p : Nat → Int) (n : Nat) : List Nat := (List.range n).filter fun i => !keepB L p i
def nmL (L : List Sn) (i : Nat) : List UInt8 := (at' L i).name.data.toList
def goneS (L : List Sn) (p : Nat → Int) : List (List UInt8) := ((goneN L p L.length).map (nmL L)).mergeSort fun x y => decide (x ≤ y)
def goneV (L : List Sn) (p : Nat → Int) (n : Nat) : List Value := (goneN L p n).map fun i => .string (at' L i).name
theorem goneN_succ (L : List Sn) (p : Nat → Int) (n : Nat) : goneN L p (n + 1) = goneN L p n ++ (if keepB L p n then [] else [n]) := by
  unfold goneN; rw [List.range_succ, List.filter_append]
  cases h : keepB L p n <;> simp [h]
theorem goneN_len (L : List Sn) (p : Nat → Int) (n : Nat) : (goneN L p n).length ≤ n := by
  have := List.length_filter_le (fun i => !keepB L p i) (List.range n); simpa [goneN] using this
theorem encStr_nm (L : List Sn) (i : Nat) : encStr (nmL L i) = .string (at' L i).name := by
  unfold nmL encStr; simp

/-- A slice value that holds these strings. -/
def Strs (w : World) (v : Value) (l : List (List UInt8)) : Prop := ∃ a cap, v = .slice a l.length cap ∧ ∀ j (hj : j < l.length), ∃ b o, a = some ⟨b, o, none⟩ ∧ w.cell? ⟨b, o + j, none⟩ = some (encStr l[j])

theorem sortS_any (u : Value) (B : Nat) (l : List (List UInt8)) (w : World) (hl : l.length ≤ 1000) (hB : B ≤ w.heap.size) (hown : w.ownsRow B 9 1 u l.length (l.map encStr)) :
    Calls Try.prog 30 #[u] w fun e w' => e = .returned (.tuple #[]) ∧ Strs w' u (l.mergeSort fun x y => decide (x ≤ y)) ∧ Below B w w' := by
  rcases hown with ⟨_, ⟨rfl, h1⟩ | ⟨blk, c, cur, rfl, hbg, hcur, hc1, hc2, hc3, hc4⟩⟩
  · have hl0 : l = [] := List.length_eq_zero_iff.1 h1
    subst hl0
    refine (Try.slices_Sort_string_none none 0 w).mono ?_
    rintro e w' ⟨rfl, rfl⟩
    exact ⟨rfl, ⟨none, 0, by simp, fun j hj => by simp at hj⟩, Below.refl _ _⟩
  · have hblk := lt_of_block hcur
    have hH : Holds encStr w blk 0 l.toArray := by
      intro j hj
      have hj' : j < l.length := by simpa using hj
      refine ⟨?_, frozen_of_row w blk _ cur 9 hcur⟩
      rw [cell_of_row w blk _ cur 9 _ hcur]
      rw [Nat.mul_one] at hc4
      have h1 : (cur.toList.take l.length)[j]? = some (encStr l[j]) := by rw [hc4]; simp [hj']
      rw [List.getElem?_take, if_pos hj', Array.getElem?_toList] at h1
      rw [Nat.zero_add, h1, getElem!_pos _ j hj]; simp
    refine (Try.slices_Sort_string blk 0 c l w hH hblk (by omega)).mono ?_
    rintro e w' ⟨rfl, n, os, rfl⟩
    refine ⟨rfl, ⟨_, c, by rw [List.length_mergeSort], fun j hj => ⟨blk, 0, rfl, ?_⟩⟩, sw_below encStr w blk 0 n _ os B hbg (by omega)⟩
    have hp := holds_sortWorld encStr w blk 0 n _ (l.mergeSort fun x y => decide (x ≤ y)).toArray os hblk hH (by simp)
    have h2 := (hp j (by simpa using hj)).1
    rw [getElem!_pos _ j (by simpa using hj)] at h2
    simpa [sortWorld] using h2
end Go.Proofs.Ytijkadahcggmeaa
