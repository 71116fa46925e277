/- What is kept is kept again: the plain law behind PruneTwice. -/
import Derived.Test.YtijkadahcggmeaaB5
import Derived.Test.YtijkadahcggmeaaC3
namespace Go.Proofs.Ytijkadahcggmeaa
open Go.RowKit

def run (f : Nat → Int) (s : RS) (l : List Nat) : RS := l.foldl (rstep f) s
theorem rrun_eq (f : Nat → Int) (n : Int) (l : List Nat) : rrun f n l = run f ⟨n, false, 0, []⟩ l := rfl
theorem run_cons (f : Nat → Int) (s : RS) (a : Nat) (l : List Nat) : run f s (a :: l) = run f (rstep f s a) l := rfl
theorem kept_mono (f : Nat → Int) (l : List Nat) : ∀ s : RS, ∀ x ∈ s.kept, x ∈ (run f s l).kept := by
  induction l with
  | nil => intro s x h; exact h
  | cons a l ih =>
    intro s x h
    rw [run_cons]
    apply ih
    unfold rstep; split
    · exact h
    · exact List.mem_append_left _ h
theorem run_filter (f : Nat → Int) (P : Nat → Bool) (l : List Nat) : ∀ s : RS, (∀ x ∈ l, P x = false → x ∉ (run f s l).kept) → run f s (l.filter P) = run f s l := by
  induction l with
  | nil => intro s _; rfl
  | cons a l ih =>
    intro s h
    rw [run_cons] at h ⊢
    cases hp : P a
    · have hs : rstep f s a = s := by
        have := h a List.mem_cons_self hp
        unfold rstep at this ⊢
        split
        · rfl
        · rename_i hn
          rw [if_neg hn] at this
          exact absurd (kept_mono f l _ a (by simp)) this
      rw [List.filter_cons_of_neg (by simp [hp]), hs]
      rw [hs] at h
      exact ih s fun x hx => h x (List.mem_cons_of_mem _ hx)
    · rw [List.filter_cons_of_pos hp, run_cons]
      exact ih _ fun x hx => h x (List.mem_cons_of_mem _ hx)
theorem kept_sub (f : Nat → Int) (l : List Nat) : ∀ s : RS, ∀ x ∈ (run f s l).kept, x ∈ s.kept ∨ x ∈ l := by
  induction l with
  | nil => intro s x h; exact .inl h
  | cons a l ih =>
    intro s x h
    rw [run_cons] at h
    rcases ih _ x h with h | h
    · unfold rstep at h
      split at h
      · exact .inl h
      · rcases List.mem_append.1 h with h | h
        · exact .inl h
        · simp at h; subst h; exact .inr List.mem_cons_self
    · exact .inr (List.mem_cons_of_mem _ h)

/-- Two states that part in the names alone. -/
def Twin (f g : Nat → Int) (φ : Nat → Nat) (A : List Nat) (s t : RS) : Prop := s.left = t.left ∧ s.any = t.any ∧ s.kept.map φ = t.kept ∧ (s.any = true → ∃ z ∈ A, s.last = f z ∧ t.last = g (φ z))
theorem twin_run (f g : Nat → Int) (φ : Nat → Nat) (A : List Nat) (hpat : ∀ x ∈ A, ∀ y ∈ A, (f x = f y ↔ g (φ x) = g (φ y))) (l : List Nat) : ∀ (s t : RS), (∀ x ∈ l, x ∈ A) → Twin f g φ A s t → Twin f g φ A (run f s l) (run g t (l.map φ)) := by
  induction l with
  | nil => intro s t _ h; exact h
  | cons a l ih =>
    intro s t hl h
    rw [List.map_cons, run_cons, run_cons]
    refine ih _ _ (fun x hx => hl x (List.mem_cons_of_mem _ hx)) ?_
    obtain ⟨h1, h2, h3, h4⟩ := h
    have ha := hl a List.mem_cons_self
    have hno : s.no (f a) ↔ t.no (g (φ a)) := by
      unfold RS.no
      rw [h1, ← h2]
      constructor
      · rintro (h | ⟨ha1, hb⟩)
        · exact .inl h
        · obtain ⟨z, hz, e1, e2⟩ := h4 ha1
          exact .inr ⟨ha1, by rw [e2]; exact (hpat z hz a ha).1 (by rw [← e1]; exact hb)⟩
      · rintro (h | ⟨ha1, hb⟩)
        · exact .inl h
        · obtain ⟨z, hz, e1, e2⟩ := h4 ha1
          exact .inr ⟨ha1, by rw [e1]; exact (hpat z hz a ha).2 (by rw [← e2]; exact hb)⟩
    unfold rstep
    by_cases hn : s.no (f a)
    · rw [if_pos hn, if_pos (hno.1 hn)]; exact ⟨h1, h2, h3, h4⟩
    · rw [if_neg hn, if_neg (fun h => hn (hno.2 h))]
      exact ⟨by simp only; omega, rfl, by simp [h3], fun _ => ⟨a, ha, rfl, rfl⟩⟩

/-- The places that are kept, rising; the snapshots that are kept. -/
def stay (L : List Sn) (p : Nat → Int) : List Nat := (List.range L.length).filter (keepB L p)
def leftL (L : List Sn) (p : Nat → Int) : List Sn := (stay L p).map (at' L)
def phi (L : List Sn) (p : Nat → Int) (i : Nat) : Nat := (stay L p).getD i 0
theorem left_len (L : List Sn) (p : Nat → Int) : (leftL L p).length = (stay L p).length := by simp [leftL]
theorem at_left (L : List Sn) (p : Nat → Int) (i : Nat) (h : i < (stay L p).length) : at' (leftL L p) i = at' L (phi L p i) := by
  simp [at', leftL, phi, h]
theorem phi_stay (L : List Sn) (p : Nat → Int) (i : Nat) (h : i < (stay L p).length) : phi L p i < L.length ∧ keepB L p (phi L p i) = true := by
  have : phi L p i ∈ stay L p := by simp [phi, h]
  unfold stay at this
  rw [List.mem_filter, List.mem_range] at this
  exact this
theorem phi_lt (L : List Sn) (p : Nat → Int) (i j : Nat) (h : i < j) (hj : j < (stay L p).length) : phi L p i < phi L p j := by
  have hp : (stay L p).Pairwise (· < ·) := List.Pairwise.filter _ List.pairwise_lt_range
  have := List.pairwise_iff_getElem.1 hp i j (by omega) hj h
  simp only [phi, List.getD_eq_getElem?_getD, List.getElem?_eq_getElem hj, List.getElem?_eq_getElem (show i < (stay L p).length by omega)]
  exact this
theorem phi_iff (L : List Sn) (p : Nat → Int) (i j : Nat) (hi : i < (stay L p).length) (hj : j < (stay L p).length) : i < j ↔ phi L p i < phi L p j := by
  constructor
  · intro h; exact phi_lt L p i j h hj
  · intro h
    rcases Nat.lt_trichotomy i j with g | g | g
    · exact g
    · subst g; omega
    · have := phi_lt L p j i g hi; omega
theorem nwr_left (L : List Sn) (p : Nat → Int) (i j : Nat) (hi : i < (stay L p).length) (hj : j < (stay L p).length) : Nwr (leftL L p) i j ↔ Nwr L (phi L p i) (phi L p j) := by
  unfold Nwr
  rw [at_left L p i hi, at_left L p j hj, phi_iff L p j i hj hi]

theorem ord_nodup (L : List Sn) : (ord L).Nodup := (mergeSort_perm' L).nodup_iff.2 List.nodup_range
theorem ord_pairwise (L : List Sn) : (ord L).Pairwise (Nwr L) := by
  have h := List.pairwise_mergeSort (le := fun x y => !lt L y x) (fun a b c h1 h2 => ?_) (fun a b => ?_) (List.range L.length)
  · have hn := ord_nodup L
    unfold ord at hn ⊢
    refine (h.and hn).imp ?_
    rintro a b ⟨h1, h2⟩
    rcases Nwr.total L a b with g | g | g
    · exact g
    · exact absurd g h2
    · rw [Bool.not_eq_true', Bool.eq_false_iff, ne_eq, lt_iff] at h1; exact absurd g h1
  · simp only [Bool.not_eq_true', Bool.eq_false_iff, ne_eq, lt_iff] at *
    intro h
    rcases Nwr.total L a b with g | g | g
    · exact h2 (h.trans g)
    · subst g; exact h2 h
    · exact h1 g
  · rw [Bool.or_eq_true, Bool.not_eq_true', Bool.not_eq_true', Bool.eq_false_iff, Bool.eq_false_iff, ne_eq, ne_eq, lt_iff, lt_iff]
    rcases Nwr.total L a b with g | g | g
    · exact .inl fun h => Nwr.irrefl L _ (g.trans h)
    · subst g; exact .inl (Nwr.irrefl L _)
    · exact .inr fun h => Nwr.irrefl L _ (g.trans h)

theorem stay_range (L : List Sn) (p : Nat → Int) : (List.range (leftL L p).length).map (phi L p) = stay L p := by
  rw [left_len]
  apply List.ext_getElem
  · simp
  · intro i h1 h2
    simp [phi, h2]
theorem ord_left (L : List Sn) (p : Nat → Int) : (ord (leftL L p)).map (phi L p) = (ord L).filter (keepB L p) := by
  have e1 : ((ord (leftL L p)).map (phi L p)).Perm ((ord L).filter (keepB L p)) := by
    refine ((mergeSort_perm' (leftL L p)).map (phi L p)).trans ?_
    rw [stay_range]
    exact ((mergeSort_perm' L).filter _).symm
  refine List.Perm.eq_of_pairwise (le := Nwr L) (fun a b _ _ h1 h2 => absurd (h1.trans h2) (Nwr.irrefl L a)) ?_ ((ord_pairwise L).filter _) e1
  rw [List.pairwise_map]
  refine (List.pairwise_iff_getElem.2 fun i j hi hj hij => ?_)
  have h := List.pairwise_iff_getElem.1 (ord_pairwise (leftL L p)) i j hi hj hij
  have a := ord_lt (leftL L p) i hi
  have b := ord_lt (leftL L p) j hj
  rw [left_len] at a b
  exact (nwr_left L p _ _ a b).1 h

theorem keepB_iff (L : List Sn) (p : Nat → Int) (i : Nat) : keepB L p i = true ↔ ∃ k, k < 6 ∧ i ∈ keptOf L p k := by
  unfold keepB
  constructor
  · intro h
    have hne : whyM L p 6 i ≠ 0 := by intro h0; rw [h0] at h; simp at h
    obtain ⟨k, hk⟩ := Nat.exists_testBit_of_ne_zero hne
    rw [whyM_bit] at hk
    simp only [Bool.and_eq_true, decide_eq_true_eq] at hk
    exact ⟨k, hk⟩
  · rintro ⟨k, hk, hi⟩
    have : (whyM L p 6 i).testBit k = true := by rw [whyM_bit]; simp [hk, hi]
    have hne : whyM L p 6 i ≠ 0 := by intro h0; rw [h0] at this; simp at this
    simp; omega

theorem kept_left (L : List Sn) (p : Nat → Int) (k : Nat) (hk : k < 6) : (keptOf (leftL L p) p k).map (phi L p) = keptOf L p k := by
  have hf : run (bk L k) ⟨p k, false, 0, []⟩ ((ord L).filter (keepB L p)) = run (bk L k) ⟨p k, false, 0, []⟩ (ord L) := by
    refine run_filter _ _ _ _ fun x _ hx hin => ?_
    have : keepB L p x = true := (keepB_iff L p x).2 ⟨k, hk, hin⟩
    rw [hx] at this; cases this
  have ht := twin_run (bk (leftL L p) k) (bk L k) (phi L p) (ord (leftL L p)) (fun x hx y hy => ?_) (ord (leftL L p)) ⟨p k, false, 0, []⟩ ⟨p k, false, 0, []⟩ (fun x h => h) ⟨rfl, rfl, rfl, fun h => by cases h⟩
  · rw [ord_left, hf] at ht
    exact ht.2.2.1
  · have bx : x < (stay L p).length := by
      have := (mergeSort_perm' (leftL L p)).mem_iff.1 hx; rw [List.mem_range, left_len] at this; exact this
    have by' : y < (stay L p).length := by
      have := (mergeSort_perm' (leftL L p)).mem_iff.1 hy; rw [List.mem_range, left_len] at this; exact this
    unfold bk
    by_cases h0 : k = 0
    · rw [if_pos h0, if_pos h0, if_pos h0, if_pos h0]
      have h1 := phi_iff L p x y bx by'
      have h2 := phi_iff L p y x by' bx
      omega
    · rw [if_neg h0, if_neg h0, if_neg h0, if_neg h0, at_left L p x bx, at_left L p y by']

theorem again (L : List Sn) (p : Nat → Int) : goneN (leftL L p) p (leftL L p).length = [] := by
  unfold goneN
  rw [List.filter_eq_nil_iff]
  intro i hi
  rw [List.mem_range, left_len] at hi
  have h := (phi_stay L p i hi).2
  obtain ⟨k, hk, hin⟩ := (keepB_iff L p _).1 h
  rw [← kept_left L p k hk, List.mem_map] at hin
  obtain ⟨j, hj, e⟩ := hin
  have hjs : j < (stay L p).length := by
    unfold keptOf at hj
    rw [rrun_eq] at hj
    rcases kept_sub _ _ _ _ hj with h | h
    · simp at h
    · have := (mergeSort_perm' (leftL L p)).mem_iff.1 h; rw [List.mem_range, left_len] at this; exact this
  have e2 : i = j := by
    have h1 := phi_iff L p i j hi hjs
    have h2 := phi_iff L p j i hjs hi
    omega
  subst e2
  have : keepB (leftL L p) p i = true := (keepB_iff _ _ _).2 ⟨k, hk, hj⟩
  simp [this]

theorem goneS_again (L : List Sn) (p : Nat → Int) : goneS (leftL L p) p = [] := by
  unfold goneS; rw [again]; simp
theorem gone_count (L : List Sn) (p : Nat → Int) : (goneS L p).length + (leftL L p).length = L.length := by
  unfold goneS
  rw [List.length_mergeSort, List.length_map, left_len]
  unfold goneN stay
  have key : ∀ l : List Nat, (l.filter fun i => !keepB L p i).length + (l.filter (keepB L p)).length = l.length := by
    intro l
    induction l with
    | nil => rfl
    | cons a l ih => cases h : keepB L p a <;> simp [h] <;> omega
  have h := key (List.range L.length)
  rwa [List.length_range] at h
theorem left_times (L : List Sn) (p : Nat → Int) (h : TimesOk L) : TimesOk (leftL L p) := by
  intro i hi
  rw [left_len] at hi
  rw [at_left L p i hi]
  exact h _ (phi_stay L p i hi).1
theorem goneS_sorted (L : List Sn) (p : Nat → Int) (i : Nat) (h : i + 1 < (goneS L p).length) : (goneS L p)[i] ≤ (goneS L p)[i + 1] := by
  have hs := List.pairwise_mergeSort (le := fun x y : List UInt8 => decide (x ≤ y)) (fun a b c h1 h2 => by simp only [decide_eq_true_eq] at *; exact List.le_trans h1 h2) (fun a b => by simp only [Bool.or_eq_true, decide_eq_true_eq]; exact List.le_total a b) ((goneN L p L.length).map (nmL L))
  have := List.pairwise_iff_getElem.1 hs i (i + 1) (by unfold goneS at h; omega) h (by omega)
  exact of_decide_eq_true this
end Go.Proofs.Ytijkadahcggmeaa
