/- What Why answers, as plain functions on lists: the order of the newest, the rules, the masks. -/
import Derived.Test.YtijkadahcggmeaaB2
import Derived.Laws.Rows
namespace Go.Proofs.Ytijkadahcggmeaa
open Go.RowKit

/-- A snapshot as its cells tell it: the name, the time, the other cells. -/
structure Sn where
  name : ByteArray
  time : Int
  rest : List Value
instance : Inhabited Sn := ⟨⟨⟨#[]⟩, 0, []⟩⟩
def Sn.cells (s : Sn) : List Value := .string s.name :: .int .i64 s.time :: s.rest
def at' (L : List Sn) (i : Nat) : Sn := L.getD i default
def cf (L : List Sn) (x y : Nat) : Int := cfI (at' L x).time (at' L y).time (at' L x).name (at' L y).name x y
def lt (L : List Sn) (x y : Nat) : Bool := decide (cf L x y < 0)
/-- The places from the newest on. -/
def ord (L : List Sn) : List Nat := (List.range L.length).mergeSort (fun x y => !lt L y x)
def bk (L : List Sn) (k i : Nat) : Int := if k = 0 then i else Cal.bkt k (at' L i).time

structure RS where
  left : Int
  any : Bool
  last : Int
  kept : List Nat
def RS.no (s : RS) (b : Int) : Prop := s.left = 0 ∨ (s.any = true ∧ s.last = b)
instance (s : RS) (b : Int) : Decidable (s.no b) := by unfold RS.no; infer_instance
def rstep (f : Nat → Int) (s : RS) (i : Nat) : RS := if s.no (f i) then s else ⟨s.left - 1, true, f i, s.kept ++ [i]⟩
def rrun (f : Nat → Int) (n : Int) (l : List Nat) : RS := l.foldl (rstep f) ⟨n, false, 0, []⟩
def keptOf (L : List Sn) (p : Nat → Int) (k : Nat) : List Nat := (rrun (bk L k) (p k) (ord L)).kept
def orBit (m : Nat) (b : Bool) (k : Nat) : Nat := if b then m ||| 2 ^ k else m
def whyM (L : List Sn) (p : Nat → Int) : Nat → Nat → Nat
  | 0, _ => 0
  | k + 1, i => orBit (whyM L p k i) (decide (i ∈ keptOf L p k)) k
def TimesOk (L : List Sn) : Prop := ∀ i, i < L.length → -1099511627776 ≤ (at' L i).time ∧ (at' L i).time ≤ 1099511627776
def row (n : Nat) (M : Nat → Nat) : Array Value := ((List.range n).map fun i => Value.int .i64 (M i : Int)).toArray

theorem rrun_take (f : Nat → Int) (n : Int) (l : List Nat) (j : Nat) (h : j < l.length) :
    rrun f n (l.take (j + 1)) = rstep f (rrun f n (l.take j)) l[j] := by
  unfold rrun
  rw [List.take_succ_eq_append_getElem h, List.foldl_append]; rfl

theorem rrun_left (f : Nat → Int) (n : Int) (hn : 0 ≤ n) (l : List Nat) : 0 ≤ (rrun f n l).left ∧ (rrun f n l).left ≤ n := by
  unfold rrun
  suffices h : ∀ (l : List Nat) (s : RS), 0 ≤ s.left → s.left ≤ n → 0 ≤ (l.foldl (rstep f) s).left ∧ (l.foldl (rstep f) s).left ≤ n from h l _ hn (Int.le_refl _)
  intro l
  induction l with
  | nil => intro s h0 h1; exact ⟨h0, h1⟩
  | cons a l ih =>
    intro s h0 h1
    refine ih _ ?_ ?_ <;> unfold rstep <;> split
    · exact h0
    · rename_i h; unfold RS.no at h; simp only; omega
    · exact h1
    · simp only; omega

theorem mergeSort_perm' (L : List Sn) : (ord L).Perm (List.range L.length) := List.mergeSort_perm _ _
theorem ord_lt (L : List Sn) (j : Nat) (h : j < (ord L).length) : (ord L)[j] < L.length := by
  have : (ord L)[j] ∈ List.range L.length := (mergeSort_perm' L).mem_iff.1 (List.getElem_mem h)
  simpa using this
theorem ord_length (L : List Sn) : (ord L).length = L.length := by have := (mergeSort_perm' L).length_eq; simpa using this

theorem whyM_lt (L : List Sn) (p : Nat → Int) (k i : Nat) : whyM L p k i < 2 ^ k := by
  induction k with
  | zero => simp [whyM]
  | succ k ih =>
    have h2 : (2 : Nat) ^ (k + 1) = 2 ^ k + 2 ^ k := by rw [Nat.pow_succ]; omega
    simp only [whyM, orBit]
    split
    · have : whyM L p k i ||| 2 ^ k < 2 ^ (k + 1) := Nat.or_lt_two_pow (by omega) (by omega)
      exact this
    · omega
theorem row_size (n : Nat) (M : Nat → Nat) : (row n M).size = n := by simp [row]
theorem row_get (n : Nat) (M : Nat → Nat) (i : Nat) (h : i < n) : (row n M)[i]? = some (.int .i64 (M i : Int)) := by simp [row, h]
theorem row_set (n : Nat) (M : Nat → Nat) (i v : Nat) (h : i < n) : (row n M).setIfInBounds i (.int .i64 (v : Int)) = row n (fun j => if j = i then v else M j) := by
  apply Array.ext_getElem?
  intro j
  rw [Array.getElem?_setIfInBounds]
  by_cases e : i = j
  · subst e; rw [if_pos rfl, row_get _ _ _ h, if_pos (by rw [row_size]; exact h), if_pos rfl]
  · rw [if_neg e]
    by_cases hj : j < n
    · rw [row_get _ _ _ hj, row_get _ _ _ hj, if_neg (Ne.symm e)]
    · rw [Array.getElem?_eq_none (by rw [row_size]; omega), Array.getElem?_eq_none (by rw [row_size]; omega)]

/-- The masks in the middle of a rule. -/
def mid (L : List Sn) (p : Nat → Int) (k : Nat) (kept : List Nat) (i : Nat) : Nat := orBit (whyM L p k i) (decide (i ∈ kept)) k
theorem mid_nil (L : List Sn) (p : Nat → Int) (k : Nat) : mid L p k [] = whyM L p k := by funext i; simp [mid, orBit]
theorem mid_lt (L : List Sn) (p : Nat → Int) (k : Nat) (kept : List Nat) (i : Nat) : mid L p k kept i < 2 ^ (k + 1) := by
  have h2 : (2 : Nat) ^ (k + 1) = 2 ^ k + 2 ^ k := by rw [Nat.pow_succ]; omega
  have := whyM_lt L p k i
  unfold mid orBit
  split
  · exact Nat.or_lt_two_pow (by omega) (by omega)
  · omega
theorem mid_snoc (L : List Sn) (p : Nat → Int) (k : Nat) (kept : List Nat) (i : Nat) :
    mid L p k (kept ++ [i]) = fun j => if j = i then mid L p k kept i ||| 2 ^ k else mid L p k kept j := by
  funext j
  by_cases e : j = i
  · subst e
    rw [if_pos rfl]
    unfold mid orBit
    have : decide (j ∈ kept ++ [j]) = true := by simp
    rw [this]
    by_cases h : j ∈ kept
    · simp [h, Nat.or_assoc]
    · simp [h]
  · rw [if_neg e]
    unfold mid orBit
    simp [e]

theorem ofInt_nat (a : Nat) (h : a < 2 ^ 64) : (BitVec.ofInt 64 (a : Int)).toNat = a := by
  rw [BitVec.toNat_ofInt]; omega
theorem or_i64 (a b : Nat) (ha : a < 2 ^ 62) (hb : b < 2 ^ 62) : bits .or .i64 (a : Int) (b : Int) = ((a ||| b : Nat) : Int) := by
  show IntKind.i64.wrap ((BitVec.ofInt 64 (a : Int) ||| BitVec.ofInt 64 (b : Int)).toNat : Int) = _
  rw [BitVec.toNat_or, ofInt_nat a (by omega), ofInt_nat b (by omega)]
  have h : a ||| b < 2 ^ 62 := Nat.or_lt_two_pow ha hb
  have e : ((a ||| b : Nat) : Int) % 2 ^ 64 = (a ||| b : Nat) := Int.emod_eq_of_lt (by omega) (by omega)
  simp only [IntKind.wrap, IntKind.bits, IntKind.signed, e]
  rw [if_neg]
  simp
  omega
theorem mid_or (L : List Sn) (p : Nat → Int) (k : Nat) (kept : List Nat) (i : Nat) (hk : k < 6) :
    bits .or .i64 (mid L p k kept i : Nat) (wrap64 (2 ^ k)) = ((mid L p k kept i ||| 2 ^ k : Nat) : Int) := by
  have h := mid_lt L p k kept i
  have e : wrap64 (2 ^ k) = ((2 ^ k : Nat) : Int) := by
    obtain rfl | rfl | rfl | rfl | rfl | rfl : k = 0 ∨ k = 1 ∨ k = 2 ∨ k = 3 ∨ k = 4 ∨ k = 5 := by omega
    all_goals simp [wrap64]
  have h6 : (2 : Nat) ^ (k + 1) ≤ 2 ^ 6 := Nat.pow_le_pow_right (by omega) (by omega)
  have h7 : (2 : Nat) ^ k ≤ 2 ^ 6 := Nat.pow_le_pow_right (by omega) (by omega)
  rw [e]; exact or_i64 _ _ (by omega) (by omega)
theorem mid_or0 (L : List Sn) (p : Nat → Int) (kept : List Nat) (i : Nat) :
    bits .or .i64 (mid L p 0 kept i : Nat) 1 = ((mid L p 0 kept i ||| 2 ^ 0 : Nat) : Int) := by
  have h := mid_lt L p 0 kept i
  exact or_i64 _ 1 (by omega) (by omega)
/-- The store of a mask. -/
theorem row_store {w : World} {b : Nat} {n : Nat} {M : Nat → Nat} {i v : Nat} {x : Int} (h : w.heap[b]? = some (.cells (row n M) 3 (0, 0))) (hi : i < n) (hx : x = (v : Int)) :
    (w.setCell ⟨b, i, none⟩ (.int .i64 x)).drew.heap[b]? = some (.cells (row n fun j => if j = i then v else M j) 3 (0, 0)) := by
  subst hx
  rw [heap_drew, heap_setCell_same w b i _ 3 _ h, row_set _ _ _ _ hi]
end Go.Proofs.Ytijkadahcggmeaa
