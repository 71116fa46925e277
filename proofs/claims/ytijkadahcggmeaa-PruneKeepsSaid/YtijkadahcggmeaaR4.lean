/- What Ints, Texts and Num of amphoranum answer where the two are the same, and what 'with' of the document's answer does. -/
import Derived.Test.YtijkadahcggmeaaC2
import Derived.Sort.EncStr
import Derived.Sort.Walk0
import Derived.BigQuiet
import Derived.LaidEql
import Derived.Test.YtijkadahcggmeaaU1
namespace Go.Proofs.Ytijkadahcggmeaa
open Go.RowKit Go.Sort

/-- A slice's cells. -/
def Reads (w : World) (a : Option Addr) (n : Nat) (f : Nat → Value) : Prop := ∀ k, k < n → ∃ b o, a = some ⟨b, o, none⟩ ∧ w.cell? ⟨b, o + k, none⟩ = some (f k)
theorem Reads.below {w w' : World} {a : Option Addr} {n : Nat} {f : Nat → Value} (h : Reads w a n f) (hb : Below w.heap.size w w') : Reads w' a n f := fun k hk => by
  obtain ⟨b, o, e, hc⟩ := h k hk
  exact ⟨b, o, e, (hb.cell (p := ⟨b, o + k, none⟩) (block_lt_of_cell hc)).trans hc⟩
theorem Reads.of_row {w : World} {b n : Nat} {M : Nat → Nat} {t : TypeId} {z : Nat × Nat} (h : w.heap[b]? = some (.cells (row n M) t z)) : Reads w (some ⟨b, 0, none⟩) n (fun k => .int .i64 (M k : Int)) := fun k hk => by
  refine ⟨b, 0, rfl, ?_⟩
  rw [Nat.zero_add]; simp [World.cell?, h, row_get _ _ _ hk]

set_option maxHeartbeats 400000 in
theorem ints_same (a b : Option Addr) (n c d : Nat) (f : Nat → Int) (w : World) (hn : n ≤ 100000) (h1 : Reads w a n fun k => .int .i64 (f k)) (h2 : Reads w b n fun k => .int .i64 (f k)) :
    Calls Try.prog 15 #[.slice a n c, .slice b n d] w fun e w' => e = .returned (.bool true) ∧ ∃ m, w' = w.drewN m := by
  have H1 := Lib.hid h1
  have H2 := Lib.hid h2
  clear h1 h2
  go_enter Try.func15, Try.ntmps15
  go_wp2_with (fail)
  go_loopw [13] (fun i wr => ∃ k : Nat, k ≤ n ∧ i = .int .i64 k ∧ ∃ m, wr = w.drewN m) (fun i _ => n - (intOf i).toNat)
  case atStart => exact ⟨0, by omega, rfl, 0, rfl⟩
  case round =>
    obtain ⟨k, hk, rfl, m, rfl⟩ := hrel
    by_cases hlt : k < n
    · obtain ⟨b1, o1, rfl, c1⟩ := H1.out k hlt
      obtain ⟨b2, o2, rfl, c2⟩ := H2.out k hlt
      go_wp2_with (fail)
      go_quiet (fail)
      go_wp2_with (fail)
      go_roundw
      case rel => exact ⟨k + 1, by omega, by go_num, m + nq, rfl⟩
      case measure => simp [intOf]; omega
    · obtain rfl : k = n := by omega
      go_wp2_with (fail)
      go_ret
      exact ⟨rfl, m, rfl⟩

set_option maxHeartbeats 400000 in
theorem texts_same (a b : Option Addr) (n c d : Nat) (f : Nat → List UInt8) (w : World) (hn : n ≤ 100000) (h1 : Reads w a n fun k => encStr (f k)) (h2 : Reads w b n fun k => encStr (f k)) :
    Calls Try.prog 17 #[.slice a n c, .slice b n d] w fun e w' => e = .returned (.bool true) ∧ ∃ m, w' = w.drewN m := by
  have H1 := Lib.hid h1
  have H2 := Lib.hid h2
  clear h1 h2
  go_enter Try.func17, Try.ntmps17
  go_wp2_with (fail)
  go_loopw [13] (fun i wr => ∃ k : Nat, k ≤ n ∧ i = .int .i64 k ∧ ∃ m, wr = w.drewN m) (fun i _ => n - (intOf i).toNat)
  case atStart => exact ⟨0, by omega, rfl, 0, rfl⟩
  case round =>
    obtain ⟨k, hk, rfl, m, rfl⟩ := hrel
    by_cases hlt : k < n
    · obtain ⟨b1, o1, rfl, c1⟩ := H1.out k hlt
      obtain ⟨b2, o2, rfl, c2⟩ := H2.out k hlt
      generalize f k = s at c1 c2
      unfold encStr at c1 c2
      go_wp2_with (fail)
      go_quiet (fail)
      go_wp2_with (fail)
      go_roundw
      case rel => exact ⟨k + 1, by omega, by go_num, m + nq, rfl⟩
      case measure => simp [intOf]; omega
    · obtain rfl : k = n := by omega
      go_wp2_with (fail)
      go_ret
      exact ⟨rfl, m, rfl⟩

set_option maxRecDepth 100000 in
theorem num_nil (w : World) : Calls Try.prog 16 #[.nilIface] w fun e w' => e = .returned (.int .i64 0) ∧ w = w' := by
  go_enter Try.func16, Try.ntmps16
  go_wp2_with (fail)
  go_ret
  exact ⟨rfl, rfl⟩
theorem assert59 (W : World) (v : Value) : (Instr.typeAssert (.iface 59 v) 34 59 true).run Try.prog W = .ok (.tuple #[v, .bool true]) W := by kernel_rfl
set_option maxRecDepth 100000 in
theorem num_err (c : Int) (w : World) (hc : c ≠ 0) : Calls Try.prog 16 #[.iface 59 (.int .i64 c)] w fun e w' => e = .returned (.int .i64 c) ∧ w = w' := by
  have h0 : (c == 0) = false := by simpa using hc
  have ha := assert59
  clear hc
  go_enter Try.func16, Try.ntmps16
  go_wp2_with (fail)
  go_ret
  exact ⟨rfl, rfl⟩

/-- The document's 'with': a rising list with a name more. -/
def wstep (s : List UInt8) (a : List (List UInt8) × Bool) (x : List UInt8) : List (List UInt8) × Bool :=
  if a.2 = false ∧ s < x then (a.1 ++ [s] ++ [x], true) else (a.1 ++ [x], a.2)
def wrun (s : List UInt8) (l : List (List UInt8)) : List (List UInt8) × Bool := l.foldl (wstep s) ([], false)
def withS (s : List UInt8) (l : List (List UInt8)) : List (List UInt8) := if (wrun s l).2 then (wrun s l).1 else (wrun s l).1 ++ [s]
theorem wrun_take (s : List UInt8) (l : List (List UInt8)) (k : Nat) (h : k < l.length) : wrun s (l.take (k + 1)) = wstep s (wrun s (l.take k)) l[k] := by
  unfold wrun; rw [List.take_succ_eq_append_getElem h, List.foldl_append]; rfl
theorem wrun_len (s : List UInt8) (l : List (List UInt8)) : (wrun s l).1.length = l.length + (wrun s l).2.toNat := by
  have key : ∀ (l : List (List UInt8)) (a : List (List UInt8) × Bool), (l.foldl (wstep s) a).1.length + a.2.toNat = a.1.length + l.length + (l.foldl (wstep s) a).2.toNat := by
    intro l
    induction l with
    | nil => intro a; simp
    | cons x l ih =>
      intro a
      have h := ih (wstep s a x)
      rw [List.foldl_cons, List.length_cons]
      by_cases hc : a.2 = false ∧ s < x
      · have e : wstep s a x = (a.1 ++ [s] ++ [x], true) := by unfold wstep; rw [if_pos hc]
        rw [e] at h ⊢; simp only [List.length_append, List.length_singleton, Bool.toNat_true] at h
        rw [hc.1, Bool.toNat_false]; omega
      · have e : wstep s a x = (a.1 ++ [x], a.2) := by unfold wstep; rw [if_neg hc]
        rw [e] at h ⊢; simp only [List.length_append, List.length_singleton] at h
        omega
  have h := key l ([], false)
  unfold wrun
  simpa using h
theorem withS_len (s : List UInt8) (l : List (List UInt8)) : (withS s l).length = l.length + 1 := by
  unfold withS
  have h := wrun_len s l
  cases hd : (wrun s l).2 <;> simp [hd] at h ⊢ <;> omega

theorem elem9 : Elem Try.prog 39 9 (.string ⟨#[]⟩) 1 16 := ⟨Try.underlying39, by kernel_rfl, rfl, by decide, by decide⟩

set_option maxRecDepth 100000 in
set_option maxHeartbeats 1000000 in
theorem with_any (s : List UInt8) (l : List (List UInt8)) (a : Option Addr) (cap : Nat) (w : World) (hl : l.length ≤ 1000) (h : Reads w a l.length fun k => encStr (l.getD k [])) :
    Calls Try.prog 31 #[.slice a l.length cap, encStr s] w fun e w' => (∃ v, e = .returned v ∧ w'.ownsRow w.heap.size 9 1 v (withS s l).length ((withS s l).map encStr)) ∧ Below w.heap.size w w' := by
  have H := Lib.hid h
  have ES := Lib.hid (show encStr s = .string ⟨s.toArray⟩ from rfl)
  clear h
  rw [ES.out]
  go_enter Try.func31, Try.ntmps31
  go_wp2_with (fail)
  go_loopw [5, 6, 7] (fun v d i wr => ∃ k : Nat, k ≤ l.length ∧ i = .int .i64 k ∧ d = .bool (wrun s (l.take k)).2 ∧ wr.ownsRow w.heap.size 9 1 v (wrun s (l.take k)).1.length ((wrun s (l.take k)).1.map encStr) ∧ Below w.heap.size w wr) (fun _ _ i _ => l.length - (intOf i).toNat)
  case atStart => exact ⟨0, by omega, rfl, by simp [wrun], by simpa [wrun] using World.ownsRow_nil _ _ _ _, Below.refl _ _⟩
  case round =>
    obtain ⟨k, hk, rfl, rfl, hown, hb⟩ := hrel
    have hsz := hb.size
    by_cases hlt : k < l.length
    · obtain ⟨b, o, rfl, hc⟩ := H.out k hlt
      have e0 : l.getD k [] = l[k] := by simp [hlt]
      simp only [e0] at hc
      have HC := Lib.hid hc
      have hc2 := (hb.cell (p := ⟨b, o + k, none⟩) (block_lt_of_cell hc)).trans hc
      have HT := Lib.hid (wrun_take s l k hlt)
      have hll := wrun_len s (l.take k)
      rw [List.length_take, Nat.min_eq_left hk] at hll
      clear hc e0
      generalize l[k] = x at hc2 HT HC
      generalize hr : wrun s (l.take k) = r at hown HT hll
      obtain ⟨out, dn⟩ := r
      have hll2 : out.length ≤ k + 1 := by have : dn.toNat ≤ 1 := Bool.toNat_le dn; simp only at hll; omega
      have HR := Lib.hid hr
      clear hr hll
      by_cases hcond : dn = false ∧ s < x
      · obtain ⟨rfl, hlx⟩ := hcond
        have hbl : Op.bytesLess s x = true := by rw [bytesLess_eq]; simpa using hlx
        have S := Lib.hid (show wstep s (out, false) x = (out ++ [s] ++ [x], true) by unfold wstep; rw [if_pos ⟨rfl, hlx⟩])
        clear hlx
        simp only at hown
        go_wp2_with (at_builtin; refine wpList_app rfl _ _ 39 rfl elem9 w.heap.size _ _ _ rfl (hown.alloc _) _ 1 1 [.string ⟨s.toArray⟩] rfl rfl (cell_one_new _ _ _) ?_ (by omega) _ (hb.alloc hsz _) (by simp; omega) ?_)
        · intro u hu; simp at hu; subst hu; rfl
        intro v1 w1 hown1 hb1
        clear hc2 hown hb
        have hc2 := (hb1.cell (p := ⟨b, o + k, none⟩) (block_lt_of_cell HC.out)).trans HC.out
        have hsz1 := hb1.size
        simp only [encStr] at hc2
        go_wp2_with (at_builtin; refine wpList_app rfl _ _ 39 rfl elem9 w.heap.size _ _ _ rfl (hown1.alloc _) _ 1 1 [.string ⟨x.toArray⟩] rfl rfl (cell_one_new _ _ _) ?_ (by omega) _ (hb1.alloc hsz1 _) (by simp; omega) ?_)
        · intro u hu; simp at hu; subst hu; rfl
        intro v2 w2 hown2 hb2
        clear hc2 hown1 hb1
        have HO := Lib.hid hown2
        go_wp2_with (fail)
        go_roundw
        case rel => exact ⟨k + 1, by omega, by go_num, by rw [HT.out, S.out], by rw [HT.out, S.out]; simpa [encStr] using HO.out, hb2⟩
        case measure => simp [intOf]; omega
      · have S := Lib.hid (show wstep s (out, dn) x = (out ++ [x], dn) by unfold wstep; rw [if_neg hcond])
        simp only at hown
        simp only [encStr] at hc2
        cases dn
        · have hbl : Op.bytesLess s x = false := by rw [bytesLess_eq]; simpa using hcond
          clear hcond
          go_wp2_with (at_builtin; refine wpList_app rfl _ _ 39 rfl elem9 w.heap.size _ _ _ rfl (hown.alloc _) _ 1 1 [.string ⟨x.toArray⟩] rfl rfl (cell_one_new _ _ _) ?_ (by omega) _ (hb.alloc hsz _) (by simp; omega) ?_)
          · intro u hu; simp at hu; subst hu; rfl
          intro v2 w2 hown2 hb2
          clear hc2 hown hb
          have HO := Lib.hid hown2
          go_wp2_with (fail)
          go_roundw
          case rel => exact ⟨k + 1, by omega, by go_num, by rw [HT.out, S.out], by rw [HT.out, S.out]; simpa [encStr] using HO.out, hb2⟩
          case measure => simp [intOf]; omega
        · clear hcond
          go_wp2_with (at_builtin; refine wpList_app rfl _ _ 39 rfl elem9 w.heap.size _ _ _ rfl (hown.alloc _) _ 1 1 [.string ⟨x.toArray⟩] rfl rfl (cell_one_new _ _ _) ?_ (by omega) _ (hb.alloc hsz _) (by simp; omega) ?_)
          · intro u hu; simp at hu; subst hu; rfl
          intro v2 w2 hown2 hb2
          clear hc2 hown hb
          have HO := Lib.hid hown2
          go_wp2_with (fail)
          go_roundw
          case rel => exact ⟨k + 1, by omega, by go_num, by rw [HT.out, S.out], by rw [HT.out, S.out]; simpa [encStr] using HO.out, hb2⟩
          case measure => simp [intOf]; omega
    · obtain rfl : k = l.length := by omega
      have hll := wrun_len s l
      have et : l.take l.length = l := List.take_length
      rw [et] at hown ⊢
      have hll2 : (wrun s l).1.length ≤ l.length + 1 := by have : (wrun s l).2.toNat ≤ 1 := Bool.toNat_le _; omega
      have HLL := Lib.hid hll
      clear hll
      cases hd : (wrun s l).2
      · have W := Lib.hid (show withS s l = (wrun s l).1 ++ [s] by unfold withS; rw [hd]; rfl)
        have HD := Lib.hid hd
        clear hd et
        go_wp2_with (at_builtin; refine wpList_app rfl _ _ 39 rfl elem9 w.heap.size _ _ _ rfl (hown.alloc _) _ 1 1 [.string ⟨s.toArray⟩] rfl rfl (cell_one_new _ _ _) ?_ (by omega) _ (hb.alloc hsz _) (by simp; omega) ?_)
        · intro u hu; simp at hu; subst hu; rfl
        intro v1 w1 hown1 hb1
        have HO := Lib.hid hown1
        have HB := Lib.hid hb1
        clear hown1 hb1 hown hb
        go_wp2_with (fail)
        go_ret
        exact ⟨⟨_, rfl, by rw [W.out, List.map_append, List.length_append]; exact HO.out⟩, HB.out⟩
      · have W := Lib.hid (show withS s l = (wrun s l).1 by unfold withS; rw [hd]; rfl)
        have HD := Lib.hid hd
        have HO := Lib.hid hown
        have HB := Lib.hid hb
        clear hd et hown hb
        go_wp2_with (fail)
        go_ret
        exact ⟨⟨_, rfl, by rw [W.out]; exact HO.out⟩, HB.out⟩
end Go.Proofs.Ytijkadahcggmeaa
