/- The document's answer for prune, as plain functions: it is the same. -/
import Derived.Test.YtijkadahcggmeaaC4
import Derived.Test.YtijkadahcggmeaaR4
namespace Go.Proofs.Ytijkadahcggmeaa
open Go.RowKit

/-! ### the order -/
theorem nodup_inj {l : List Nat} (h : l.Nodup) {i j : Nat} (hi : i < l.length) (hj : j < l.length) (e : l[i] = l[j]) : i = j := by
  have h2 := List.pairwise_iff_getElem.1 h
  rcases Nat.lt_trichotomy i j with g | g | g
  · exact absurd e (h2 i j hi hj g)
  · exact g
  · exact absurd e.symm (h2 j i hj hi g)

def posK (L : List Sn) (i j : Nat) : Nat := (List.range j).countP fun x => lt L x i
theorem posK_succ (L : List Sn) (i j : Nat) : posK L i (j + 1) = posK L i j + (if lt L j i then 1 else 0) := by
  unfold posK; rw [List.range_succ, List.countP_append]; simp [List.countP_cons]
theorem posK_le (L : List Sn) (i j : Nat) : posK L i j ≤ j := by
  have := List.countP_le_length (p := fun x => lt L x i) (l := List.range j); simpa [posK] using this
def pos (L : List Sn) (i : Nat) : Nat := posK L i L.length
theorem lt_irrefl' (L : List Sn) (i : Nat) : lt L i i = false := by
  rw [Bool.eq_false_iff, ne_eq, lt_iff]; exact Nwr.irrefl L i
theorem pos_spec (L : List Sn) (i : Nat) (hi : i < L.length) : (ord L)[pos L i]? = some i := by
  have hm : i ∈ ord L := (mergeSort_perm' L).mem_iff.2 (List.mem_range.2 hi)
  obtain ⟨xs, bs, e⟩ := List.append_of_mem hm
  have hp := ord_pairwise L
  rw [e, List.pairwise_append] at hp
  obtain ⟨_, h2, h3⟩ := hp
  have h4 := List.pairwise_cons.1 h2
  have hc : pos L i = (ord L).countP fun x => lt L x i := ((mergeSort_perm' L).countP_eq _).symm
  have ha : xs.countP (fun x => lt L x i) = xs.length := List.countP_eq_length.2 fun x hx => (lt_iff L x i).2 (h3 x hx i (List.mem_cons_self ..))
  have hb : bs.countP (fun x => lt L x i) = 0 := List.countP_eq_zero.2 fun x hx => by
    rw [lt_iff]; intro h; exact Nwr.irrefl L _ ((h4.1 x hx).trans h)
  have : pos L i = xs.length := by
    rw [hc, e, List.countP_append, List.countP_cons, ha, hb, lt_irrefl']; simp
  rw [this, e, List.getElem?_append_right (Nat.le_refl _)]; simp
theorem pos_lt (L : List Sn) (i : Nat) (hi : i < L.length) : pos L i < L.length := by
  have h := pos_spec L i hi
  have := (List.getElem?_eq_some_iff.1 h).1
  rwa [ord_length] at this
def filled (L : List Sn) (k m : Nat) : Nat := if (ord L).getD m 0 < k then (ord L).getD m 0 else 0
theorem filled_zero (L : List Sn) : filled L 0 = fun _ => 0 := by funext m; simp [filled]
theorem filled_succ (L : List Sn) (k m : Nat) (hk : k < L.length) (hm : m < L.length) : filled L (k + 1) m = if m = pos L k then k else filled L k m := by
  have hml : m < (ord L).length := by rw [ord_length]; exact hm
  have e : (ord L).getD m 0 = (ord L)[m] := by simp [hml]
  have hp := pos_spec L k hk
  unfold filled
  rw [e]
  by_cases h : m = pos L k
  · subst h
    rw [List.getElem?_eq_getElem hml] at hp
    rw [Option.some.inj hp, if_pos (by omega), if_pos rfl]
  · have hne : (ord L)[m] ≠ k := by
      intro hh
      refine h ?_
      have hpl := (List.getElem?_eq_some_iff.1 hp).1
      have h2 : (ord L)[m] = (ord L)[pos L k] := by rw [hh]; exact (List.getElem?_eq_some_iff.1 hp).2.symm
      exact nodup_inj (ord_nodup L) _ _ h2
    rw [if_neg h]
    by_cases h3 : (ord L)[m] < k
    · rw [if_pos (by omega), if_pos h3]
    · rw [if_neg (by omega), if_neg h3]
theorem filled_all (L : List Sn) (m : Nat) (hm : m < L.length) : filled L L.length m = (ord L).getD m 0 := by
  have hml : m < (ord L).length := by rw [ord_length]; exact hm
  have e : (ord L).getD m 0 = (ord L)[m] := by simp [hml]
  unfold filled
  rw [e, if_pos (ord_lt L m hml)]
theorem row_congr {n : Nat} {M N : Nat → Nat} (h : ∀ m, m < n → M m = N m) : row n M = row n N := by
  unfold row; congr 1
  exact List.map_congr_left fun m hm => by rw [h m (List.mem_range.1 hm)]

/-! ### the rules -/
theorem rrun_inv (f : Nat → Int) (n : Int) (l : List Nat) :
    (rrun f n l).left = n - (rrun f n l).kept.length ∧ (rrun f n l).any = !(rrun f n l).kept.isEmpty ∧ ((rrun f n l).kept ≠ [] → (rrun f n l).last = f ((rrun f n l).kept.getLastD 0)) := by
  unfold rrun
  suffices h : ∀ (l : List Nat) (s : RS), (s.left = n - s.kept.length ∧ s.any = !s.kept.isEmpty ∧ (s.kept ≠ [] → s.last = f (s.kept.getLastD 0))) →
      ((l.foldl (rstep f) s).left = n - (l.foldl (rstep f) s).kept.length ∧ (l.foldl (rstep f) s).any = !(l.foldl (rstep f) s).kept.isEmpty ∧ ((l.foldl (rstep f) s).kept ≠ [] → (l.foldl (rstep f) s).last = f ((l.foldl (rstep f) s).kept.getLastD 0))) from
    h l _ ⟨by simp, rfl, fun h => absurd rfl h⟩
  intro l
  induction l with
  | nil => intro s h; exact h
  | cons a l ih =>
    intro s h
    refine ih _ ?_
    unfold rstep
    split
    · exact h
    · refine ⟨?_, ?_, ?_⟩
      · simp only [List.length_append, List.length_singleton]; have := h.1; omega
      · simp
      · intro _; simp
theorem rrun_full (f : Nat → Int) (n : Int) (l r : List Nat) (h : (rrun f n l).left = 0) : rrun f n (l ++ r) = rrun f n l := by
  unfold rrun at *
  rw [List.foldl_append]
  generalize l.foldl (rstep f) ⟨n, false, 0, []⟩ = s at *
  induction r with
  | nil => rfl
  | cons a r ih =>
    rw [List.foldl_cons]
    have : rstep f s a = s := by unfold rstep; rw [if_pos (.inl h)]
    rw [this]; exact ih
theorem rrun_sub (f : Nat → Int) (n : Int) (l : List Nat) (x : Nat) (h : x ∈ (rrun f n l).kept) : x ∈ l := by
  rw [rrun_eq] at h
  rcases kept_sub _ _ _ _ h with g | g
  · simp at g
  · exact g
theorem not_in_take (L : List Sn) (f : Nat → Int) (n : Int) (j : Nat) (hj : j < (ord L).length) : (ord L)[j] ∉ (rrun f n ((ord L).take j)).kept := by
  intro h
  have h1 := rrun_sub _ _ _ _ h
  obtain ⟨i, hi, e⟩ := List.getElem_of_mem h1
  rw [List.length_take] at hi
  rw [List.getElem_take] at e
  have := nodup_inj (ord_nodup L) _ _ e
  omega
theorem mid_add (L : List Sn) (p : Nat → Int) (k : Nat) (kept : List Nat) (i : Nat) (h : i ∉ kept) : mid L p k kept i + 2 ^ k = mid L p k kept i ||| 2 ^ k := by
  have e : mid L p k kept i = whyM L p k i := by unfold mid orBit; simp [h]
  rw [e]
  have := Nat.two_pow_add_eq_or_of_lt (whyM_lt L p k i) 1
  rw [Nat.mul_one] at this
  rw [Nat.add_comm, this, Nat.or_comm]

/-! ### the names -/
def insS (s : List UInt8) : List (List UInt8) → List (List UInt8)
  | [] => [s]
  | x :: l => if s < x then s :: x :: l else x :: insS s l
theorem wrun_done (s : List UInt8) (l o : List (List UInt8)) : l.foldl (wstep s) (o, true) = (o ++ l, true) := by
  induction l generalizing o with
  | nil => simp
  | cons x l ih =>
    rw [List.foldl_cons]
    have : wstep s (o, true) x = (o ++ [x], true) := by unfold wstep; rw [if_neg (by simp)]
    rw [this, ih]; simp
theorem withS_eq (s : List UInt8) (l : List (List UInt8)) : withS s l = insS s l := by
  have key : ∀ (l o : List (List UInt8)), (if (l.foldl (wstep s) (o, false)).2 then (l.foldl (wstep s) (o, false)).1 else (l.foldl (wstep s) (o, false)).1 ++ [s]) = o ++ insS s l := by
    intro l
    induction l with
    | nil => intro o; simp [insS]
    | cons x l ih =>
      intro o
      by_cases h : s < x
      · have : wstep s (o, false) x = (o ++ [s] ++ [x], true) := by unfold wstep; rw [if_pos ⟨rfl, h⟩]
        simp only [List.foldl_cons, this, wrun_done, insS, if_pos h]
        simp
      · have : wstep s (o, false) x = (o ++ [x], false) := by unfold wstep; rw [if_neg (by simp [h])]
        simp only [List.foldl_cons, this, insS, if_neg h]
        rw [ih]; simp
  have := key l []
  rw [List.nil_append] at this
  exact this
theorem insS_perm (s : List UInt8) (l : List (List UInt8)) : (insS s l).Perm (s :: l) := by
  induction l with
  | nil => exact .refl _
  | cons x l ih =>
    unfold insS
    split
    · exact .refl _
    · exact (ih.cons x).trans (.swap s x l)
theorem insS_sorted (s : List UInt8) (l : List (List UInt8)) (h : l.Pairwise (· ≤ ·)) : (insS s l).Pairwise (· ≤ ·) := by
  induction l with
  | nil => simp [insS]
  | cons x l ih =>
    have hx := List.pairwise_cons.1 h
    unfold insS
    split
    · rename_i hlt
      refine List.pairwise_cons.2 ⟨fun y hy => ?_, h⟩
      rcases List.mem_cons.1 hy with rfl | hy
      · exact List.le_of_lt hlt
      · exact List.le_trans (List.le_of_lt hlt) (hx.1 y hy)
    · rename_i hlt
      refine List.pairwise_cons.2 ⟨fun y hy => ?_, ih hx.2⟩
      rcases List.mem_cons.1 ((insS_perm s l).mem_iff.1 hy) with rfl | hy
      · exact List.not_lt.1 hlt
      · exact hx.1 y hy
def goneR (L : List Sn) (p : Nat → Int) (n : Nat) : List (List UInt8) := (goneN L p n).foldl (fun acc i => withS (nmL L i) acc) []
theorem goneR_succ (L : List Sn) (p : Nat → Int) (n : Nat) : goneR L p (n + 1) = if keepB L p n then goneR L p n else withS (nmL L n) (goneR L p n) := by
  unfold goneR; rw [goneN_succ]
  split <;> simp [List.foldl_append]
theorem goneR_fact (L : List Sn) (p : Nat → Int) (l : List Nat) : ∀ acc : List (List UInt8), acc.Pairwise (· ≤ ·) →
    (l.foldl (fun acc i => withS (nmL L i) acc) acc).Pairwise (· ≤ ·) ∧ (l.foldl (fun acc i => withS (nmL L i) acc) acc).Perm (l.map (nmL L) ++ acc) := by
  induction l with
  | nil => intro acc h; exact ⟨h, .refl _⟩
  | cons a l ih =>
    intro acc h
    rw [List.foldl_cons, withS_eq]
    have := ih _ (insS_sorted (nmL L a) acc h)
    refine ⟨this.1, this.2.trans ?_⟩
    refine ((insS_perm (nmL L a) acc).append_left _).trans ?_
    rw [List.map_cons, List.cons_append]
    exact List.perm_middle
theorem goneR_all (L : List Sn) (p : Nat → Int) : goneR L p L.length = goneS L p := by
  have h := goneR_fact L p (goneN L p L.length) [] List.Pairwise.nil
  rw [List.append_nil] at h
  have hs := List.pairwise_mergeSort (le := fun x y : List UInt8 => decide (x ≤ y)) (fun a b c h1 h2 => by simp only [decide_eq_true_eq] at *; exact List.le_trans h1 h2) (fun a b => by simp only [Bool.or_eq_true, decide_eq_true_eq]; exact List.le_total a b) ((goneN L p L.length).map (nmL L))
  refine List.Perm.eq_of_pairwise (le := fun x y : List UInt8 => x ≤ y) (fun a b _ _ h1 h2 => List.le_antisymm h1 h2) h.1 (hs.imp fun h => by simpa using h) (h.2.trans (List.mergeSort_perm _ _).symm)
theorem goneR_len (L : List Sn) (p : Nat → Int) (n : Nat) : (goneR L p n).length ≤ n := by
  have h := (goneR_fact L p (goneN L p n) [] List.Pairwise.nil).2.length_eq
  have := goneN_len L p n
  rw [List.append_nil, List.length_map] at h
  unfold goneR; omega
end Go.Proofs.Ytijkadahcggmeaa
