/- The masks' bits; with greater numbers each rule keeps no less. -/
import Derived.Test.YtijkadahcggmeaaC2
namespace Go.Proofs.Ytijkadahcggmeaa
open Go.RowKit

theorem whyM_bit (L : List Sn) (p : Nat → Int) (n i k : Nat) : (whyM L p n i).testBit k = (decide (k < n) && decide (i ∈ keptOf L p k)) := by
  induction n with
  | zero => simp [whyM]
  | succ n ih =>
    simp only [whyM, orBit]
    by_cases h : i ∈ keptOf L p n
    · rw [decide_eq_true h, if_pos rfl, Nat.testBit_or, ih, Nat.testBit_two_pow]
      by_cases e : n = k
      · subst e; simp [h]
      · have : (k < n + 1) = (k < n) := by apply propext; omega
        simp [e, this]
    · rw [decide_eq_false h, if_neg (by simp), ih]
      by_cases e : k = n
      · subst e; simp [h]
      · have : (k < n + 1) = (k < n) := by apply propext; omega
        simp only [this]

/-- How a rule with a greater number stands beside the rule. -/
def Ahead (d : Int) (s t : RS) : Prop := (t.left = s.left + d ∧ t.any = s.any ∧ t.last = s.last ∧ t.kept = s.kept) ∨ (s.left = 0 ∧ ∃ l, t.kept = s.kept ++ l)
theorem Ahead.step {d : Int} (hd : 0 ≤ d) {s t : RS} (hs : 0 ≤ s.left) (h : Ahead d s t) (f : Nat → Int) (i : Nat) : Ahead d (rstep f s i) (rstep f t i) := by
  unfold rstep
  rcases h with ⟨h1, h2, h3, h4⟩ | ⟨h1, l, h2⟩
  · by_cases hn : s.no (f i)
    · rw [if_pos hn]
      rcases hn with hn | ⟨ha, hl⟩
      · refine .inr ⟨hn, ?_⟩
        split
        · exact ⟨[], by simp [h4]⟩
        · exact ⟨[i], by simp [h4]⟩
      · rw [if_pos (.inr ⟨by rw [h2]; exact ha, by rw [h3]; exact hl⟩)]
        exact .inl ⟨h1, h2, h3, h4⟩
    · have hn' : ¬ t.no (f i) := by
        rintro (g | ⟨g1, g2⟩)
        · exact hn (.inl (by omega))
        · exact hn (.inr ⟨by rw [← h2]; exact g1, by rw [← h3]; exact g2⟩)
      rw [if_neg hn, if_neg hn']
      exact .inl ⟨by simp only; omega, rfl, rfl, by simp [h4]⟩
  · have hn : s.no (f i) := Or.inl h1
    rw [if_pos hn]
    refine .inr ⟨h1, ?_⟩
    split
    · exact ⟨l, h2⟩
    · exact ⟨l ++ [i], by simp [h2]⟩
theorem kept_grows (f : Nat → Int) (n m : Int) (h0 : 0 ≤ n) (h : n ≤ m) (l : List Nat) (i : Nat) (hi : i ∈ (rrun f n l).kept) : i ∈ (rrun f m l).kept := by
  have key : ∀ (l : List Nat) (s t : RS), 0 ≤ s.left → Ahead (m - n) s t → Ahead (m - n) (l.foldl (rstep f) s) (l.foldl (rstep f) t) := by
    intro l
    induction l with
    | nil => intro s t _ h; exact h
    | cons a l ih =>
      intro s t hs h
      refine ih _ _ ?_ (h.step (by omega) hs f a)
      unfold rstep; split
      · exact hs
      · rename_i hn; unfold RS.no at hn; simp only; omega
  have := key l ⟨n, false, 0, []⟩ ⟨m, false, 0, []⟩ h0 (.inl ⟨by simp only; omega, rfl, rfl, rfl⟩)
  unfold rrun at hi ⊢
  rcases this with ⟨_, _, _, h4⟩ | ⟨_, l', h2⟩
  · rw [h4]; exact hi
  · rw [h2]; exact List.mem_append_left _ hi

theorem and_not_zero (a b : Nat) (ha : a < 2 ^ 6) (hb : b < 2 ^ 6) (h : ∀ k, a.testBit k = true → b.testBit k = true) : bits .andNot .i64 (a : Int) (b : Int) = 0 := by
  have hab : a ||| b = b := by
    apply Nat.eq_of_testBit_eq; intro k
    rw [Nat.testBit_or]
    cases ha : a.testBit k
    · simp
    · simp [h k ha]
  have key : ∀ x : Nat, x < 64 → ∀ y : Nat, y < 64 → x ||| y = y → bits .andNot .i64 (x : Int) (y : Int) = 0 := by
    intro x hx y hy e
    show IntKind.i64.wrap ((BitVec.ofInt 64 (x : Int) &&& ~~~ BitVec.ofInt 64 (y : Int)).toNat : Int) = 0
    have : BitVec.ofInt 64 (x : Int) &&& ~~~ BitVec.ofInt 64 (y : Int) = 0#64 := by
      have e1 : BitVec.ofInt 64 (x : Int) ||| BitVec.ofInt 64 (y : Int) = BitVec.ofInt 64 (y : Int) := by
        apply BitVec.eq_of_toNat_eq
        rw [BitVec.toNat_or, ofInt_nat x (by omega), ofInt_nat y (by omega), e]
      rw [← e1, BitVec.not_or]
      rw [← BitVec.and_assoc, BitVec.and_not_self]; exact BitVec.zero_and
    rw [this]; decide
  exact key a ha b hb hab

theorem grows (L : List Sn) (p q : Nat → Int) (hp : ∀ k, k < 6 → 0 ≤ p k) (hq : ∀ k, k < 6 → p k ≤ q k) (i : Nat) : bits .andNot .i64 (whyM L p 6 i : Nat) (whyM L q 6 i : Nat) = 0 := by
  refine and_not_zero _ _ (whyM_lt L p 6 i) (whyM_lt L q 6 i) fun k h => ?_
  rw [whyM_bit] at h ⊢
  simp only [Bool.and_eq_true, decide_eq_true_eq] at h ⊢
  exact ⟨h.1, kept_grows _ _ _ (hp k h.1) (hq k h.1) _ _ h.2⟩
end Go.Proofs.Ytijkadahcggmeaa
