/- What Check, newer and Order of the document's answer do. -/
import Derived.Test.YtijkadahcggmeaaC8
import Derived.Test.YtijkadahcggmeaaK1
import Derived.Test.YtijkadahcggmeaaR3
namespace Go.Proofs.Ytijkadahcggmeaa
open Go.RowKit Go.Sort

def someP (p : Nat → Int) (k : Nat) : Bool := (List.range k).any fun j => decide (0 < p j)
theorem someP_succ (p : Nat → Int) (k : Nat) : someP p (k + 1) = (someP p k || decide (0 < p k)) := by simp [someP, List.range_succ]
theorem someP_iff (p : Nat → Int) (n : Nat) (h : ∀ k, k < n → 0 ≤ p k ∧ p k ≤ 1048576) : someP p n = decide (polSum p n ≠ 0) := by
  induction n with
  | zero => simp [someP, polSum]
  | succ n ih =>
    have h1 := polSum_bd p n (fun k hk => h k (by omega))
    have h2 := h n (by omega)
    rw [someP_succ, ih (fun k hk => h k (by omega)), polSum]
    by_cases a : polSum p n = 0
    · by_cases b : p n = 0
      · simp [a, b]
      · have : 0 < p n := by omega
        simp [a, this]; omega
    · have : ¬ (polSum p n + p n = 0) := by omega
      simp [a, this]

set_option maxHeartbeats 1000000 in
theorem checkR_ok (p : Nat → Int) (w : World) (h : PolOk p) :
    Calls Try.prog 19 #[.agg (P6 p)] w fun e w' => e = .returned (.int .i64 0) ∧ Below w.heap.size w w' := by
  obtain ⟨h1, h2⟩ := h
  have hs6 : someP p 6 = true := by rw [someP_iff p 6 h1]; simpa using h2
  have HS6 := Lib.hid hs6
  have H1 := Lib.hid h1; clear h1 h2 hs6
  go_enter Try.func19, Try.ntmps19
  go_wp2_with (fail)
  refine (numbersR_any p _).mono ?_; rintro e w1 ⟨⟨b, rfl, hrow, hbb⟩, hb1⟩
  have hbw : Below w.heap.size w w1 := ((Below.refl _ _).alloc (Nat.le_refl _) _).trans (hb1.mono (by simp))
  clear hb1
  go_wp2_with (fail)
  go_loop [4, 5] (fun s i => ∃ k : Nat, k ≤ 6 ∧ i = .int .i64 k ∧ s = .bool (someP p k)) (fun _ i => 6 - (intOf i).toNat)
  case atStart => exact ⟨0, by omega, rfl, rfl⟩
  case round =>
    obtain ⟨k, hk, rfl, rfl⟩ := hrel
    by_cases hlt : k < 6
    · have hp := H1.out k hlt
      have hc : w1.cell? ⟨b, k, none⟩ = some (.int .i64 (p k)) := by
        rw [cell_of_row _ _ _ _ _ _ hrow]
        obtain rfl | rfl | rfl | rfl | rfl | rfl : k = 0 ∨ k = 1 ∨ k = 2 ∨ k = 3 ∨ k = 4 ∨ k = 5 := by omega
        all_goals rfl
      have HR := Lib.hid hrow
      have SU := Lib.hid (someP_succ p k)
      clear hrow
      generalize someP p k = sk at SU ⊢
      have g1 : decide (p k < 0) = false := by simp; omega
      have g2 : decide (1048576 < p k) = false := by simp; omega
      cases sk
      · go_wp2_with (fail)
        go_round
        case rel => exact ⟨k + 1, by omega, by go_num, by rw [SU.out]; simp⟩
        case measure => simp [intOf]; omega
      · go_wp2_with (fail)
        go_round
        case rel => exact ⟨k + 1, by omega, by go_num, by rw [SU.out]; simp⟩
        case measure => simp [intOf]; omega
    · obtain rfl : k = 6 := by omega
      clear hrow
      rw [HS6.out]
      go_wp2_with (fail)
      go_ret
      exact ⟨rfl, hbw⟩

set_option maxHeartbeats 1000000 in
theorem checkR_bad (p : Nat → Int) (w : World) (h : ¬ PolOk p) :
    Calls Try.prog 19 #[.agg (P6 p)] w fun e w' => e = .returned (.int .i64 23) ∧ Below w.heap.size w w' := by
  obtain ⟨K, hK, h1, h2⟩ : ∃ K, K ≤ 6 ∧ (∀ k, k < K → 0 ≤ p k ∧ p k ≤ 1048576) ∧ ((K < 6 ∧ (p K < 0 ∨ 1048576 < p K)) ∨ (K = 6 ∧ someP p 6 = false)) := by
    rcases pol_bad p h with ⟨K, hK, h1, h2⟩ | ⟨h1, h2⟩
    · exact ⟨K, by omega, h1, .inl ⟨hK, h2⟩⟩
    · exact ⟨6, by omega, h1, .inr ⟨rfl, by rw [someP_iff p 6 h1]; simpa using h2⟩⟩
  have H1 := Lib.hid h1
  have H2 := Lib.hid h2
  clear h1 h2 h
  go_enter Try.func19, Try.ntmps19
  go_wp2_with (fail)
  refine (numbersR_any p _).mono ?_; rintro e w1 ⟨⟨b, rfl, hrow, hbb⟩, hb1⟩
  have hbw : Below w.heap.size w w1 := ((Below.refl _ _).alloc (Nat.le_refl _) _).trans (hb1.mono (by simp))
  clear hb1
  go_wp2_with (fail)
  go_loop [4, 5] (fun s i => ∃ k : Nat, k ≤ K ∧ i = .int .i64 k ∧ s = .bool (someP p k)) (fun _ i => 6 - (intOf i).toNat)
  case atStart => exact ⟨0, by omega, rfl, rfl⟩
  case round =>
    obtain ⟨k, hk, rfl, rfl⟩ := hrel
    by_cases hlt : k < 6
    · have hc : w1.cell? ⟨b, k, none⟩ = some (.int .i64 (p k)) := by
        rw [cell_of_row _ _ _ _ _ _ hrow]
        obtain rfl | rfl | rfl | rfl | rfl | rfl : k = 0 ∨ k = 1 ∨ k = 2 ∨ k = 3 ∨ k = 4 ∨ k = 5 := by omega
        all_goals rfl
      have HR := Lib.hid hrow
      clear hrow
      by_cases hltK : k < K
      · have hp := H1.out k hltK
        have SU := Lib.hid (someP_succ p k)
        generalize someP p k = sk at SU ⊢
        have g1 : decide (p k < 0) = false := by simp; omega
        have g2 : decide (1048576 < p k) = false := by simp; omega
        cases sk
        · go_wp2_with (fail)
          go_round
          case rel => exact ⟨k + 1, by omega, by go_num, by rw [SU.out]; simp⟩
          case measure => simp [intOf]; omega
        · go_wp2_with (fail)
          go_round
          case rel => exact ⟨k + 1, by omega, by go_num, by rw [SU.out]; simp⟩
          case measure => simp [intOf]; omega
      · obtain rfl : k = K := by omega
        have h3 : p k < 0 ∨ 1048576 < p k := by rcases H2.out with ⟨_, h⟩ | ⟨h, _⟩; exact h; omega
        rcases h3 with h3 | h3
        · go_wp2_with (fail)
          go_ret
          exact ⟨rfl, hbw⟩
        · have g1 : ¬ p k < 0 := by omega
          go_wp2_with (fail)
          go_ret
          exact ⟨rfl, hbw⟩
    · obtain rfl : k = 6 := by omega
      have hs : someP p 6 = false := by rcases H2.out with ⟨h, _⟩ | ⟨_, h⟩; omega; exact h
      have HS := Lib.hid hs
      clear hrow hs
      rw [HS.out]
      go_wp2_with (fail)
      go_ret
      exact ⟨rfl, hbw⟩

theorem lt_of (L : List Sn) (i j : Nat) (b : Bool) (h : Nwr L i j ↔ b = true) : lt L i j = b := by
  rw [Bool.eq_iff_iff, lt_iff]; exact h
set_option maxRecDepth 100000 in
set_option maxHeartbeats 1000000 in
theorem newerR_any (a : Option Addr) (cap : Nat) (L : List Sn) (i j : Nat) (w : World) (hL : L.length ≤ 1000) (h : SN w a L w.heap.size) (hi : i < L.length) (hj : j < L.length) :
    Calls Try.prog 44 #[.slice a L.length cap, .int .i64 (i : Nat), .int .i64 (j : Nat)] w fun e w' => e = .returned (.bool (lt L i j)) ∧ ∃ m, w' = w.drewN m := by
  obtain ⟨b, o, rfl, _, hri, _, _⟩ := h.addr i hi
  obtain ⟨b2, o2, e2, _, hrj, _, _⟩ := h.addr j hj
  obtain ⟨rfl, rfl⟩ : b = b2 ∧ o = o2 := by cases e2; exact ⟨rfl, rfl⟩
  have ti : w.cell? ⟨b, o + i * 36 + 1, none⟩ = some (.int .i64 (at' L i).time) := hri 1 _ rfl
  have tj : w.cell? ⟨b, o + j * 36 + 1, none⟩ = some (.int .i64 (at' L j).time) := hrj 1 _ rfl
  have ni : w.cell? ⟨b, o + i * 36, none⟩ = some (.string (at' L i).name) := hri 0 _ rfl
  have nj : w.cell? ⟨b, o + j * 36, none⟩ = some (.string (at' L j).name) := hrj 0 _ rfl
  have LT : ∀ b, (Nwr L i j ↔ b = true) → lt L i j = b := lt_of L i j
  unfold Nwr at LT
  have LTH := Lib.hid LT
  clear hri hrj h e2 LT
  generalize at' L i = x at ti ni LTH
  generalize at' L j = y at tj nj LTH
  generalize lt L i j = r at LTH ⊢
  obtain ⟨xn, xt, xr⟩ := x
  obtain ⟨yn, yt, yr⟩ := y
  simp only at ti tj ni nj LTH
  by_cases h1 : xt = yt
  · subst h1
    by_cases h2 : (xn.toList == yn.toList) = true
    · have h2' : xn.toList = yn.toList := by simpa using h2
      obtain rfl := LTH.out (decide (j < i)) (by rw [h2']; simp [List.lt_irrefl])
      clear LTH h2'
      have d : decide ((j : Int) < i) = decide (j < i) := by rw [decide_eq_decide]; omega
      have D := Lib.hid d
      clear d
      go_enter Try.func44, Try.ntmps44
      go_wp2_with (fail)
      go_quiet (fail)
      go_wp2_with (fail)
      go_quiet (fail)
      go_wp2_with (fail)
      go_ret
      exact ⟨ret_bool (by first | exact D.out | rfl), _, rfl⟩
    · have h2f : (xn.toList == yn.toList) = false := by simpa using h2
      have h2' : xn.toList ≠ yn.toList := by simpa using h2
      obtain rfl := LTH.out (!Op.bytesLess xn.toList yn.toList && !(xn.toList == yn.toList)) (by
        rw [bytesLess_eq, h2f]
        constructor
        · rintro (h | ⟨_, h | ⟨h, _⟩⟩)
          · omega
          · simp; exact List.le_of_lt h
          · exact absurd h.symm h2'
        · intro h
          simp at h
          exact .inr ⟨rfl, .inl (Decidable.byContradiction fun hn => h2' (List.le_antisymm (List.not_lt.1 hn) h))⟩)
      clear LTH h2 h2'
      go_enter Try.func44, Try.ntmps44
      go_wp2_with (fail)
      go_quiet (fail)
      go_wp2_with (fail)
      go_quiet (fail)
      go_wp2_with (fail)
      go_quiet (fail)
      go_wp2_with (fail)
      go_ret
      exact ⟨ret_bool (by simp [h2f]), _, by rw [World.drewN_drewN, World.drewN_drewN]⟩
  · have h1f : (xt == yt) = false := by simpa using h1
    obtain rfl := LTH.out (decide (yt < xt)) (by simp; omega)
    clear LTH h1
    go_enter Try.func44, Try.ntmps44
    go_wp2_with (fail)
    go_quiet (fail)
    go_wp2_with (fail)
    go_quiet (fail)
    go_wp2_with (fail)
    go_ret
    exact ⟨rfl, _, by rw [World.drewN_drewN]⟩

theorem new_row0 (w : World) (L : List Sn) (M : Nat → Nat) (hM : M = fun _ => 0) : (w.alloc (.cells (madeCells #[Value.int .i64 0] L.length) 3)).heap[w.heap.size]? = some (.cells (row L.length M) 3 (0, 0)) := by
  subst hM
  exact new_row w L (fun _ => 0)

set_option maxRecDepth 100000 in
set_option maxHeartbeats 2000000 in
theorem orderR_any (a : Option Addr) (cap : Nat) (L : List Sn) (w : World) (hL : L.length ≤ 1000) (h : SN w a L w.heap.size) :
    Calls Try.prog 29 #[.slice a L.length cap] w fun e w' => (∃ b, e = .returned (.slice (some ⟨b, 0, none⟩) L.length L.length) ∧
      w'.heap[b]? = some (.cells (row L.length (filled L L.length)) 3 (0, 0)) ∧ w.heap.size ≤ b) ∧ Below w.heap.size w w' := by
  have hmk := run_make_row' (P := Try.prog) 32 3 (.int .i64 0) 8 Try.underlying32 info3 rfl .i64 .i64 L.length (by omega) (by omega)
  have H := Lib.hid h
  clear h
  go_enter Try.func29, Try.ntmps29
  go_wp2_with (fail)
  go_loopw [4, 5, 6] (fun i _ _ wr => ∃ k : Nat, k ≤ L.length ∧ i = .int .i64 k ∧ Below w.heap.size w wr ∧ w.heap.size < wr.heap.size ∧ wr.heap[w.heap.size]? = some (.cells (row L.length (filled L k)) 3 (0, 0))) (fun i _ _ _ => L.length - (intOf i).toNat)
  case atStart => exact ⟨0, by omega, rfl, (Below.refl _ _).alloc (Nat.le_refl _) _, by simp, new_row0 _ _ _ (filled_zero L)⟩
  case round =>
    obtain ⟨k, hk, rfl, hb, hsz, hrow⟩ := hrel
    obtain ⟨wo, rfl⟩ : ∃ wo : World, wo = wr := ⟨_, rfl⟩
    by_cases hlt : k < L.length
    · go_wp2_with (fail)
      go_loopw [5, 6] (fun c j wi => ∃ q : Nat, q ≤ L.length ∧ j = .int .i64 q ∧ c = .int .i64 (posK L k q : Nat) ∧ ∃ m, wi = wo.drewN m) (fun _ j _ => L.length - (intOf j).toNat)
      case atStart => exact ⟨0, by omega, rfl, rfl, 0, rfl⟩
      case round =>
        obtain ⟨q, hq, rfl, rfl, m, rfl⟩ := hrel
        have hple := posK_le L k q
        by_cases hlq : q < L.length
        · have PS := Lib.hid (posK_succ L k q)
          by_cases hqk : q = k
          · subst hqk
            have E := Lib.hid (lt_irrefl' L q)
            go_wp2_with (fail)
            go_roundw
            case rel => exact ⟨q + 1, by omega, by go_num, by rw [PS.out, E.out]; simp, m, rfl⟩
            case measure => simp [intOf]; omega
          · have hne : ((q : Int) != (k : Int)) = true := by rw [bne_iff_ne]; omega
            clear hqk
            generalize hg : lt L q k = r at PS
            have HG := Lib.hid hg
            clear hg
            go_wp2_with (fail)
            refine (newerR_any a cap L q k _ hL ⟨fun i hi => by
              obtain ⟨b, o, e, hB, hr, h1, h2⟩ := H.out.addr i hi
              exact ⟨b, o, e, Nat.lt_of_lt_of_le hB hb.size, fun j v hj => (hb.cell (p := ⟨b, o + i * 36 + j, none⟩) hB).trans (hr j v hj), h1, h2⟩⟩ hlq hlt).mono ?_
            rintro e w' ⟨rfl, m2, rfl⟩
            rw [HG.out]
            cases r
            · go_wp2_with (fail)
              go_roundw
              case rel => exact ⟨q + 1, by omega, by go_num, by rw [PS.out]; simp, m + m2, rfl⟩
              case measure => simp [intOf]; omega
            · go_wp2_with (fail)
              go_roundw
              case rel => exact ⟨q + 1, by omega, by go_num, by rw [PS.out]; go_num, m + m2, rfl⟩
              case measure => simp [intOf]; omega
        · obtain rfl : q = L.length := by omega
          have hpl : posK L k L.length < L.length := pos_lt L k hlt
          have HP := Lib.hid (show posK L k L.length = pos L k from rfl)
          have hoc : (wo.drewN m).cell? ⟨w.heap.size, posK L k L.length, none⟩ = some (.int .i64 (filled L k (posK L k L.length) : Nat)) := by
            rw [cell_of_row _ _ _ _ _ _ (show (wo.drewN m).heap[w.heap.size]? = _ from hrow), row_get _ _ _ hpl]
          have hof : (wo.drewN m).frozen? ⟨w.heap.size, posK L k L.length, none⟩ = false := frozen_of_row _ w.heap.size _ _ 3 hrow
          have HR := Lib.hid hrow
          clear hrow
          generalize posK L k L.length = q at *
          go_wp2_with (fail)
          go_roundw
          case rel =>
            refine ⟨k + 1, by omega, by go_num, (BelowdN hb m).setCell (by simp) _, by rw [World.size_setCell]; exact hsz, ?_⟩
            have h1 := heap_setCell_same (wo.drewN m) w.heap.size q (row L.length (filled L k)) 3 (.int .i64 (k : Int)) HR.out
            rw [h1, row_set _ _ _ _ hpl]
            congr 2
            refine row_congr fun x hx => ?_
            rw [filled_succ L k x hlt hx, HP.out]
          case measure => simp [intOf]; omega
    · obtain rfl : k = L.length := by omega
      have HR := Lib.hid hrow
      clear hrow
      go_wp2_with (fail)
      go_ret
      exact ⟨⟨_, rfl, HR.out, Nat.le_refl _⟩, hb⟩
end Go.Proofs.Ytijkadahcggmeaa
