/- The walk of the law PruneTwice. -/
import Derived.Test.YtijkadahcggmeaaC4
import Derived.Test.YtijkadahcggmeaaB9
import Derived.Great.BuildSlice
namespace Go.Proofs.Ytijkadahcggmeaa
open Go.RowKit Go.Sort Go.Shelf Go.Lib

def zagg : Value := .agg (snz ⟨#[]⟩ 0).cells.toArray
theorem info30 : (Try.prog.info? 30).map (fun i => (i.zero, i.size, i.bytes)) = some (some zagg, 36, 72) := by kernel_rfl
def flat (l : List Sn) : List Value := l.flatMap Sn.cells
def leftK (L : List Sn) (p : Nat → Int) (k : Nat) : List Sn := ((List.range k).filter (keepB L p)).map (at' L)
theorem leftK_succ (L : List Sn) (p : Nat → Int) (k : Nat) : leftK L p (k + 1) = leftK L p k ++ (if keepB L p k then [at' L k] else []) := by
  unfold leftK; rw [List.range_succ, List.filter_append, List.map_append]
  cases h : keepB L p k <;> simp [h]
theorem leftK_len (L : List Sn) (p : Nat → Int) (k : Nat) : (leftK L p k).length ≤ k := by
  unfold leftK; rw [List.length_map]
  have := List.length_filter_le (keepB L p) (List.range k); simpa using this
theorem leftK_all (L : List Sn) (p : Nat → Int) : leftK L p L.length = leftL L p := rfl

theorem flat_get (l : List Sn) (h : ∀ s ∈ l, s.cells.length = 36) (i j : Nat) (hi : i < l.length) (hj : j < 36) : (flat l)[i * 36 + j]? = (l[i]).cells[j]? := by
  induction l generalizing i with
  | nil => simp at hi
  | cons a l ih =>
    have ha := h a List.mem_cons_self
    show (a.cells ++ flat l)[i * 36 + j]? = _
    cases i with
    | zero => rw [Nat.zero_mul, Nat.zero_add, List.getElem?_append_left (by omega)]; rfl
    | succ i =>
      rw [List.getElem?_append_right (by rw [ha]; omega), ha, show (i + 1) * 36 + j - 36 = i * 36 + j by omega]
      exact ih (fun s hs => h s (List.mem_cons_of_mem _ hs)) i (by simpa using hi)
theorem flat_len (l : List Sn) (h : ∀ s ∈ l, s.cells.length = 36) : (flat l).length = l.length * 36 := by
  induction l with
  | nil => rfl
  | cons a l ih =>
    show (a.cells ++ flat l).length = _
    rw [List.length_append, h a List.mem_cons_self, ih fun s hs => h s (List.mem_cons_of_mem _ hs), List.length_cons]; omega

theorem SN_own {w : World} {B : Nat} {v : Value} {l : List Sn} (h : w.ownsRow B 30 36 v l.length (flat l)) (h36 : ∀ s ∈ l, s.cells.length = 36 ∧ ∀ v ∈ s.cells, v.oneCell' = true) :
    ∃ a cap, v = .slice a l.length cap ∧ SN w a l w.heap.size := by
  rcases h.2 with ⟨rfl, h1⟩ | ⟨g, cap, cur, rfl, _, hcur, hc1, _, hc3, hc4⟩
  · exact ⟨none, 0, by rw [h1], ⟨fun i hi => by omega⟩⟩
  · refine ⟨some ⟨g, 0, none⟩, cap, rfl, ⟨fun i hi => ?_⟩⟩
    have e : at' l i = l[i] := by simp [at', hi]
    have hm : l[i] ∈ l := List.getElem_mem hi
    refine ⟨g, 0, rfl, lt_of_block hcur, fun j u hu => ?_, by rw [e]; exact (h36 _ hm).1, by rw [e]; exact (h36 _ hm).2⟩
    have hj : j < 36 := by rw [← (h36 _ hm).1, ← e]; exact (List.getElem?_eq_some_iff.1 hu).1
    rw [cell_of_row w g _ cur 30 _ hcur, Nat.zero_add]
    have hlt : i * 36 + j < l.length * 36 := by omega
    have h1 : (cur.toList.take (l.length * 36))[i * 36 + j]? = some u := by
      rw [hc4, flat_get l (fun s hs => (h36 s hs).1) i j hi hj, ← e]; exact hu
    rwa [List.getElem?_take, if_pos hlt, Array.getElem?_toList] at h1

theorem fold_set (l : List Value) : ∀ (k : Nat) (a : Array Value), k + l.length = a.size → ((l.zipIdx k).foldl (fun cs x => cs.setIfInBounds (0 + x.2) x.1) a).toList = a.toList.take k ++ l := by
  induction l with
  | nil => intro k a h; simp at h ⊢; rw [List.take_of_length_le (by simp; omega)]
  | cons x l ih =>
    intro k a h
    rw [List.zipIdx_cons, List.foldl_cons, ih (k + 1) _ (by simp at h ⊢; omega)]
    simp only [List.length_cons] at h
    rw [Nat.zero_add, Array.toList_setIfInBounds, List.take_succ_eq_append_getElem (by simp; omega)]
    rw [List.take_set_of_le (by omega)]
    simp
set_option maxRecDepth 100000 in
theorem build_one (s : Sn) (h : s.cells.length = 36) (w : World) : (Instr.buildSlice 24 1 #[(0, .agg s.cells.toArray)]).run Try.prog w = .ok (.slice (some ⟨w.heap.size, 0, none⟩) 1 1) (w.alloc (.cells s.cells.toArray 30)) := by
  obtain ⟨i0, hi0, hz0, hz1, hz2⟩ := info_parts info30
  refine run_buildSlice (P := Try.prog) w 24 30 1 #[(0, .agg s.cells.toArray)] s.cells.toArray i0 zagg Try.underlying24 hi0 hz0 (by rw [hz1]; decide) (by rw [hz1]; decide) ?_
  simp only [hz1]
  have hz : ∀ z : Array Value, z.size = 36 → Instr.fill (fun i => some (i * 36, 36)) z [(0, .agg s.cells.toArray)] = some s.cells.toArray := by
    intro z hz
    simp only [Instr.fill, Value.cells, List.size_toArray, h, hz, Nat.zero_mul]
    simp only [ne_eq, not_true_eq_false, decide_false, Nat.zero_add, Nat.lt_irrefl, gt_iff_lt, Bool.or_false, if_false, Bool.false_eq_true]
    congr 1
    apply Array.ext'
    have := fold_set s.cells 0 z (by omega)
    simp only [List.take_zero, List.nil_append, Nat.zero_add] at this
    simpa using this
  exact hz _ (by simp)
theorem build_none (w : World) : (Instr.buildSlice 24 0 #[]).run Try.prog w = .ok (.slice (some ⟨w.heap.size, 0, none⟩) 0 0) (w.alloc (.cells #[] 30)) := by kernel_rfl
end Go.Proofs.Ytijkadahcggmeaa
