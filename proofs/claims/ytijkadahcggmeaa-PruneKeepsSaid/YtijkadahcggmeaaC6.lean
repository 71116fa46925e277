/- How many each rule keeps: the plain laws behind PruneCounts. -/
import Derived.Test.YtijkadahcggmeaaC4
import Derived.Test.YtijkadahcggmeaaC5
namespace Go.Proofs.Ytijkadahcggmeaa
open Go.RowKit

/-- Those whose bucket is another one's than the last's. -/
def fst (g : Nat → Int) : Option Int → List Nat → List Nat
  | _, [] => []
  | o, a :: r => if o = some (g a) then fst g o r else a :: fst g (some (g a)) r
theorem run_fst (g : Nat → Int) (l : List Nat) : ∀ s : RS, 0 ≤ s.left → (run g s l).kept = s.kept ++ (fst g (if s.any then some s.last else none) l).take s.left.toNat := by
  induction l with
  | nil => intro s _; simp [run, fst]
  | cons a l ih =>
    intro s h0
    rw [run_cons]
    unfold rstep
    by_cases hl : s.left = 0
    · rw [if_pos (show s.no (g a) from Or.inl hl), ih s h0, hl]; simp
    · by_cases hb : s.any = true ∧ s.last = g a
      · rw [if_pos (show s.no (g a) from Or.inr hb), ih s h0]
        congr 2
        rw [hb.1]
        simp only [if_true, fst, hb.2]
      · have hn : ¬ s.no (g a) := by rintro (h | h); exact hl h; exact hb h
        rw [if_neg hn, ih _ (by simp only; omega)]
        have hne : ¬ (if s.any = true then some s.last else none) = some (g a) := by
          split
          · rename_i hany; intro h; exact hb ⟨hany, Option.some.inj h⟩
          · intro h; cases h
        have e : fst g (if s.any = true then some s.last else none) (a :: l) = a :: fst g (some (g a)) l := by
          rw [fst, if_neg hne]
        rw [e]
        have e2 : s.left.toNat = (s.left - 1).toNat + 1 := by omega
        rw [e2, List.take_succ_cons]
        simp
theorem kept_fst (L : List Sn) (p : Nat → Int) (k : Nat) (h : 0 ≤ p k) : keptOf L p k = (fst (bk L k) none (ord L)).take (p k).toNat := by
  unfold keptOf
  rw [rrun_eq, run_fst _ _ _ h]; simp

theorem fst_sub (g : Nat → Int) (l : List Nat) : ∀ o, (fst g o l).Sublist l := by
  induction l with
  | nil => intro o; exact List.Sublist.slnil
  | cons a l ih =>
    intro o
    rw [fst]
    split
    · exact (ih o).cons a
    · exact (ih _).cons_cons a
/-- Falling along the list. -/
def Falls (g : Nat → Int) (l : List Nat) : Prop := l.Pairwise fun a b => g b ≤ g a
theorem fst_low (g : Nat → Int) (l : List Nat) : ∀ o : Int, (∀ z ∈ l, g z ≤ o) → Falls g l → ∀ x ∈ fst g (some o) l, g x < o := by
  induction l with
  | nil => intro o _ _ x hx; cases hx
  | cons a l ih =>
    intro o ho hf x hx
    have hf2 := List.pairwise_cons.1 hf
    rw [fst] at hx
    split at hx
    · exact ih o (fun z hz => ho z (List.mem_cons_of_mem _ hz)) hf2.2 x hx
    · rename_i hne
      have ha := ho a List.mem_cons_self
      have hne' : o ≠ g a := fun e => hne (by rw [e])
      rcases List.mem_cons.1 hx with rfl | hx
      · omega
      · have := ih (g a) (fun z hz => hf2.1 z hz) hf2.2 x hx
        omega
theorem fst_strict (g : Nat → Int) (l : List Nat) : ∀ o, Falls g l → (fst g o l).Pairwise fun a b => g b < g a := by
  induction l with
  | nil => intro o _; exact List.Pairwise.nil
  | cons a l ih =>
    intro o hf
    have hf2 := List.pairwise_cons.1 hf
    rw [fst]
    split
    · exact ih o hf2.2
    · exact List.pairwise_cons.2 ⟨fun x hx => fst_low g l (g a) hf2.1 hf2.2 x hx, ih _ hf2.2⟩
theorem fst_cover (g : Nat → Int) (l : List Nat) : ∀ o, ∀ x ∈ l, o = some (g x) ∨ ∃ y ∈ fst g o l, g y = g x := by
  induction l with
  | nil => intro o x hx; cases hx
  | cons a l ih =>
    intro o x hx
    rw [fst]
    split
    · rename_i he
      rcases List.mem_cons.1 hx with rfl | hx
      · exact .inl he
      · exact ih o x hx
    · rcases List.mem_cons.1 hx with rfl | hx
      · exact .inr ⟨_, List.mem_cons_self, rfl⟩
      · rcases ih (some (g a)) x hx with h | ⟨y, hy, e⟩
        · exact .inr ⟨a, List.mem_cons_self, Option.some.inj h⟩
        · exact .inr ⟨y, List.mem_cons_of_mem _ hy, e⟩
theorem fst_inj (g : Nat → Int) (l : List Nat) (hg : ∀ x y, g x = g y → x = y) : ∀ o, l.Nodup → (∀ x ∈ l, o ≠ some (g x)) → fst g o l = l := by
  induction l with
  | nil => intro o _ _; rfl
  | cons a l ih =>
    intro o hn ho
    have hn2 := List.nodup_cons.1 hn
    rw [fst, if_neg (ho a List.mem_cons_self), ih _ hn2.2 fun x hx h => ?_]
    have := hg _ _ (Option.some.inj h)
    subst this; exact hn2.1 hx
theorem fst_before (g : Nat → Int) (l : List Nat) : ∀ o, Falls g l → (∀ v, o = some v → ∀ z ∈ l, g z ≤ v) → ∀ x ∈ fst g o l, o ≠ some (g x) ∧ ∃ l1 l2, l = l1 ++ x :: l2 ∧ ∀ y ∈ l1, g y ≠ g x := by
  induction l with
  | nil => intro o _ _ x hx; cases hx
  | cons a l ih =>
    intro o hf ho x hx
    have hf2 := List.pairwise_cons.1 hf
    rw [fst] at hx
    split at hx
    · rename_i he
      obtain ⟨h1, l1, l2, rfl, h2⟩ := ih o hf2.2 (fun v hv z hz => ho v hv z (List.mem_cons_of_mem _ hz)) x hx
      refine ⟨h1, a :: l1, l2, rfl, fun y hy => ?_⟩
      rcases List.mem_cons.1 hy with rfl | hy
      · intro e; exact h1 (by rw [he, e])
      · exact h2 y hy
    · rename_i hne
      rcases List.mem_cons.1 hx with rfl | hx
      · exact ⟨hne, [], l, rfl, fun y hy => by cases hy⟩
      · obtain ⟨h1, l1, l2, rfl, h2⟩ := ih (some (g a)) hf2.2 (fun v hv z hz => by rw [← Option.some.inj hv]; exact hf2.1 z hz) x hx
        refine ⟨fun e => ?_, a :: l1, l2, rfl, fun y hy => ?_⟩
        · have b1 := ho _ e a List.mem_cons_self
          have b2 := hf2.1 x (by simp)
          have : g a = g x := by omega
          exact h1 (by rw [this])
        · rcases List.mem_cons.1 hy with rfl | hy
          · intro e; exact h1 (by rw [e])
          · exact h2 y hy

theorem ord_falls (L : List Sn) (k : Nat) (hk : k ≠ 0) : Falls (bk L k) (ord L) := by
  refine (ord_pairwise L).imp ?_
  intro a b h
  unfold bk
  rw [if_neg hk, if_neg hk]
  refine Cal.bkt_mono _ _ _ ?_
  rcases h with h | ⟨h, _⟩ <;> omega
theorem mem_ord (L : List Sn) (i : Nat) : i ∈ ord L ↔ i < L.length := by rw [(mergeSort_perm' L).mem_iff, List.mem_range]

/-- How many buckets there are: those of which there is none ahead. -/
def newB (g : Nat → Int) (i : Nat) : Bool := (List.range i).all fun j => !(decide (g j = g i))
def cntB (g : Nat → Int) (n : Nat) : Nat := ((List.range n).filter (newB g)).length
theorem newB_iff (g : Nat → Int) (i : Nat) : newB g i = true ↔ ∀ j, j < i → g j ≠ g i := by
  unfold newB; rw [List.all_eq_true]
  constructor
  · intro h j hj; have := h j (List.mem_range.2 hj); simpa using this
  · intro h j hj; have := h j (List.mem_range.1 hj); simpa using this
theorem cnt_fst (g : Nat → Int) (l : List Nat) (n : Nat) (hl : ∀ i, i ∈ l ↔ i < n) (hf : Falls g l) : cntB g n = (fst g none l).length := by
  have key : (((List.range n).filter (newB g)).map g).Perm ((fst g none l).map g) := by
    refine (List.perm_ext_iff_of_nodup ?_ ?_).2 fun v => ?_
    · unfold List.Nodup
      rw [List.pairwise_map]
      refine List.Pairwise.imp_of_mem ?_ (List.Pairwise.filter _ (List.pairwise_lt_range (n := n)))
      intro a b ha hb hab e
      rw [List.mem_filter] at hb
      exact (newB_iff g b).1 hb.2 a hab e
    · unfold List.Nodup
      rw [List.pairwise_map]
      exact (fst_strict g l none hf).imp fun h e => by omega
    · constructor
      · intro h
        obtain ⟨i, hi, rfl⟩ := List.mem_map.1 h
        rw [List.mem_filter, List.mem_range] at hi
        rcases fst_cover g l none i ((hl i).2 hi.1) with h | ⟨y, hy, e⟩
        · cases h
        · exact List.mem_map.2 ⟨y, hy, e⟩
      · intro h
        obtain ⟨i, hi, rfl⟩ := List.mem_map.1 h
        have hin := (hl i).1 ((fst_sub g l none).subset hi)
        have : ∃ j, j < n ∧ g j = g i ∧ newB g j = true := by
          have ex : ∃ j, g j = g i := ⟨i, rfl⟩
          have hm : ∀ m, m ≤ i → g m = g i → ∃ j, j ≤ i ∧ g j = g i ∧ newB g j = true := by
            intro m
            induction m using Nat.strongRecOn with
            | _ m ih =>
              intro hm hg
              by_cases hb : newB g m = true
              · exact ⟨m, hm, hg, hb⟩
              · rw [newB_iff] at hb
                have : ∃ j, j < m ∧ g j = g m := by
                  refine Decidable.byContradiction fun hne => hb fun j hj e => hne ⟨j, hj, e⟩
                obtain ⟨j, hj, e⟩ := this
                exact ih j hj (by omega) (by rw [e, hg])
          obtain ⟨j, h1, h2, h3⟩ := hm i (Nat.le_refl _) rfl
          exact ⟨j, by omega, h2, h3⟩
        obtain ⟨j, h1, h2, h3⟩ := this
        exact List.mem_map.2 ⟨j, List.mem_filter.2 ⟨List.mem_range.2 h1, h3⟩, h2⟩
  have := key.length_eq
  rw [List.length_map, List.length_map] at this
  exact this

def bucketsN (L : List Sn) (k : Nat) : Nat := if k = 0 then L.length else cntB (bk L k) L.length
theorem fst_count (L : List Sn) (k : Nat) : (fst (bk L k) none (ord L)).length = bucketsN L k := by
  unfold bucketsN
  by_cases h : k = 0
  · rw [if_pos h, fst_inj _ _ (fun x y e => ?_) none (ord_nodup L) (fun x _ h => by cases h), ord_length]
    subst h
    unfold bk at e; rw [if_pos rfl, if_pos rfl] at e; omega
  · rw [if_neg h, cnt_fst (bk L k) (ord L) L.length (mem_ord L) (ord_falls L k h)]
def cntK (L : List Sn) (p : Nat → Int) (k n : Nat) : Nat := ((List.range n).filter fun i => (whyM L p 6 i).testBit k).length
theorem kept_count (L : List Sn) (p : Nat → Int) (k : Nat) (hk : k < 6) (hp : 0 ≤ p k) : (cntK L p k L.length : Int) = min (p k) (bucketsN L k : Int) := by
  have hnd : (keptOf L p k).Nodup := by
    rw [kept_fst L p k hp]
    exact ((ord_nodup L).sublist (fst_sub _ _ _)).sublist (List.take_sublist _ _)
  have key : ((List.range L.length).filter fun i => (whyM L p 6 i).testBit k).Perm (keptOf L p k) := by
    refine (List.perm_ext_iff_of_nodup (List.Pairwise.filter _ List.nodup_range) hnd).2 fun i => ?_
    rw [List.mem_filter, List.mem_range, whyM_bit]
    simp only [Bool.and_eq_true, decide_eq_true_eq]
    constructor
    · exact fun h => h.2.2
    · intro h
      refine ⟨?_, hk, h⟩
      rw [kept_fst L p k hp] at h
      exact (mem_ord L i).1 ((fst_sub _ _ _).subset (List.mem_of_mem_take h))
  unfold cntK
  rw [key.length_eq, kept_fst L p k hp, List.length_take, fst_count]
  omega
theorem kept_newest (L : List Sn) (p : Nat → Int) (k i j : Nat) (hk : k ≠ 0) (hp : 0 ≤ p k) (hi : i ∈ keptOf L p k) (hj : j < L.length) (ht : (at' L i).time < (at' L j).time) : Cal.bkt k (at' L i).time ≠ Cal.bkt k (at' L j).time := by
  rw [kept_fst L p k hp] at hi
  obtain ⟨_, l1, l2, e, h⟩ := fst_before (bk L k) (ord L) none (ord_falls L k hk) (fun v hv => by cases hv) i (List.mem_of_mem_take hi)
  have hjm := (mem_ord L j).2 hj
  rw [e, List.mem_append, List.mem_cons] at hjm
  rcases hjm with h1 | rfl | h2
  · have := h j h1
    unfold bk at this; rw [if_neg hk, if_neg hk] at this
    exact fun e => this e.symm
  · omega
  · exfalso
    have hp := ord_pairwise L
    rw [e, List.pairwise_append] at hp
    have := (List.pairwise_cons.1 hp.2.1).1 j h2
    rcases this with h | ⟨h, _⟩ <;> omega

/-- The newest of the first i. -/
def top (L : List Sn) : Nat → Nat
  | 0 => 0
  | i + 1 => if i = 0 then 0 else if lt L i (top L i) then i else top L i
theorem top_spec (L : List Sn) (i : Nat) (h : 0 < i) : top L i < i ∧ ∀ j, j < i → j ≠ top L i → Nwr L (top L i) j := by
  induction i with
  | zero => omega
  | succ i ih =>
    by_cases h0 : i = 0
    · subst h0; refine ⟨by simp [top], fun j hj hne => ?_⟩
      exfalso; apply hne; simp only [top, if_true]; omega
    · obtain ⟨h1, h2⟩ := ih (by omega)
      simp only [top, if_neg h0]
      by_cases hl : lt L i (top L i) = true
      · rw [if_pos hl]
        refine ⟨by omega, fun j hj hne => ?_⟩
        have hb := (lt_iff L _ _).1 hl
        by_cases e : j = top L i
        · subst e; exact hb
        · exact hb.trans (h2 j (by omega) e)
      · rw [if_neg hl]
        refine ⟨by omega, fun j hj hne => ?_⟩
        by_cases e : j = i
        · subst e
          rw [lt_iff] at hl
          rcases Nwr.total L (top L j) j with g | g | g
          · exact g
          · omega
          · exact absurd g hl
        · exact h2 j (by omega) hne
theorem top_head (L : List Sn) (h : 0 < L.length) : (ord L)[0]'(by rw [ord_length]; exact h) = top L L.length := by
  have hl : 0 < (ord L).length := by rw [ord_length]; exact h
  obtain ⟨h1, h2⟩ := top_spec L L.length h
  have hm := (mem_ord L (top L L.length)).2 h1
  obtain ⟨j, hj, e⟩ := List.getElem_of_mem hm
  by_cases h0 : j = 0
  · subst h0; exact e
  · exfalso
    have hp := List.pairwise_iff_getElem.1 (ord_pairwise L) 0 j hl hj (by omega)
    rw [e] at hp
    have hne : (ord L)[0] ≠ top L L.length := fun e2 => by rw [e2] at hp; exact Nwr.irrefl L _ hp
    exact Nwr.irrefl L _ ((h2 _ (ord_lt L 0 hl) hne).trans hp)
theorem top_kept (L : List Sn) (p : Nat → Int) (hp : PolOk p) (h : 0 < L.length) : whyM L p 6 (top L L.length) ≠ 0 := by
  have : ∃ k, k < 6 ∧ 0 < p k := by
    refine Decidable.byContradiction fun hne => hp.2 ?_
    have hz : ∀ k, k < 6 → p k = 0 := fun k hk => by
      have := (hp.1 k hk).1
      rcases Int.lt_or_le 0 (p k) with h | h
      · exact absurd ⟨k, hk, h⟩ hne
      · omega
    simp [polSum, hz]
  obtain ⟨k, hk, hpk⟩ := this
  have hin : top L L.length ∈ keptOf L p k := by
    rw [kept_fst L p k (by omega), ← top_head L h]
    obtain ⟨a, l, e⟩ : ∃ a l, ord L = a :: l := by
      have := ord_length L
      cases ho : ord L with
      | nil => rw [ho] at this; simp at this; omega
      | cons a l => exact ⟨a, l, rfl⟩
    obtain ⟨m, hm⟩ : ∃ m, (p k).toNat = m + 1 := ⟨(p k).toNat - 1, by omega⟩
    rw [hm]
    simp only [e, List.getElem_cons_zero]
    rw [fst, if_neg (by intro h; cases h), List.take_succ_cons]
    exact List.mem_cons_self
  have : (whyM L p 6 (top L L.length)).testBit k = true := by rw [whyM_bit]; simp [hk, hin]
  intro h0; rw [h0] at this; simp at this
end Go.Proofs.Ytijkadahcggmeaa
