/- The walk of the law PruneKeeps. -/
import Derived.Test.YtijkadahcggmeaaR8
import Derived.Deep.RegionHeld3
import Derived.Deep.RegionWith
namespace Go.Proofs.Ytijkadahcggmeaa
open Go.RowKit Go.Sort Go.Shelf Go.Lib

theorem keeps_long (p : Nat → Int) (a : Option Addr) (n cap : Nat) (w : World) (h : 150 < n) :
    Calls Try.prog 3 #[.agg (P6 p), .slice a n cap] w fun e w' => e = .returned (.bool true) ∧ Below w.heap.size w w' := by
  go_enter Try.func3, Try.ntmps3
  go_wp2_with (fail)
  refine (alive_any _).mono ?_; rintro e w1 ⟨rfl, hb1⟩
  go_wp2_with (fail)
  refine (long_yes _ _ _ _ h).mono ?_; rintro e w2 ⟨rfl, rfl⟩
  go_wp2_with (fail)
  go_ret
  exact ⟨rfl, ((Below.refl _ _).alloc (Nat.le_refl _) _).trans (hb1.mono (by simp))⟩

theorem elem30 : Elem Try.prog 24 30 zagg 36 72 := ⟨Try.underlying24, info30, rfl, by decide, by decide⟩
theorem flat_all (L : List Sn) : (List.range L.length).map (at' L) = L := by
  apply List.ext_getElem
  · simp
  · intro i h1 h2; simp [at', h2]
theorem num_any (v : Value) (c : Int) (w : World) (h : (v = .nilIface ∧ c = 0) ∨ (v = .iface 59 (.int .i64 c) ∧ c ≠ 0)) : Calls Try.prog 16 #[v] w fun e w' => e = .returned (.int .i64 c) ∧ Below w.heap.size w w' := by
  rcases h with ⟨rfl, rfl⟩ | ⟨rfl, hc⟩
  · exact (num_nil w).mono fun e w' ⟨h1, h2⟩ => ⟨h1, by rw [← h2]; exact Below.refl _ _⟩
  · exact (num_err c w hc).mono fun e w' ⟨h1, h2⟩ => ⟨h1, by rw [← h2]; exact Below.refl _ _⟩
theorem codeOf_ne (p : Nat → Int) : codeOf p ≠ 0 := by unfold codeOf; split <;> decide
def mark : Sn := snz ⟨#[109, 97, 114, 107]⟩ 7

theorem Reads.of_own {w : World} {B n : Nat} {e : TypeId} {f : Nat → Value} {xs : List Value} {a : Option Addr} {c : Nat} (h : w.ownsRow B e 1 (.slice a n c) n xs) (hx : ∀ k, k < n → xs[k]? = some (f k)) : Reads w a n f := fun k hk => by
  rcases h with ⟨_, ⟨e0, h0⟩ | ⟨g, gc, cur, e2, _, hg, _, _, _, hg4⟩⟩
  · omega
  · cases e2
    refine ⟨g, 0, rfl, ?_⟩
    rw [Nat.zero_add, cell_of_row _ _ _ _ _ _ hg]
    rw [Nat.mul_one] at hg4
    have h1 : (cur.toList.take n)[k]? = some (f k) := by rw [hg4]; exact hx k hk
    rwa [List.getElem?_take, if_pos hk, Array.getElem?_toList] at h1
theorem strs_reads {w : World} {v : Value} {l : List (List UInt8)} (h : Strs w v l) : ∃ a c, v = .slice a l.length c ∧ Reads w a l.length fun k => encStr (l.getD k []) := by
  obtain ⟨a, c, rfl, hc⟩ := h
  refine ⟨a, c, rfl, fun k hk => ?_⟩
  obtain ⟨b, o, e, h1⟩ := hc k hk
  refine ⟨b, o, e, ?_⟩
  rw [h1]; simp [hk]
theorem to_below {f : FuncId} {args : Array Value} {w : World} {v : Value} (h : Calls Try.prog f args w fun e w' => e = .returned v ∧ ∃ m, w' = w.drewN m) : Calls Try.prog f args w fun e w' => e = .returned v ∧ Below w.heap.size w w' :=
  h.mono fun e w' ⟨h1, m, h2⟩ => ⟨h1, by rw [h2]; exact BelowdN (Below.refl _ _) m⟩
theorem to_below0 {f : FuncId} {args : Array Value} {w : World} {v : Value} (h : Calls Try.prog f args w fun e w' => e = .returned v ∧ w = w') : Calls Try.prog f args w fun e w' => e = .returned v ∧ Below w.heap.size w w' :=
  h.mono fun e w' ⟨h1, h2⟩ => ⟨h1, by rw [← h2]; exact Below.refl _ _⟩
theorem keepS {b : Nat} {p : Nat → Int} {w0 w w' : World} (hb0 : b < w0.heap.size) (h : w.cell? ⟨b, 0, none⟩ = some (.int .i64 (p 0)) ∧ w.cell? ⟨b, 1, none⟩ = some (.int .i64 (p 1)) ∧ w.cell? ⟨b, 2, none⟩ = some (.int .i64 (p 2)) ∧ w.cell? ⟨b, 3, none⟩ = some (.int .i64 (p 3)) ∧ w.cell? ⟨b, 4, none⟩ = some (.int .i64 (p 4)) ∧ w.cell? ⟨b, 5, none⟩ = some (.int .i64 (p 5)) ∧ Below w0.heap.size w0 w) (hb : Below w.heap.size w w') : w'.cell? ⟨b, 0, none⟩ = some (.int .i64 (p 0)) ∧ w'.cell? ⟨b, 1, none⟩ = some (.int .i64 (p 1)) ∧ w'.cell? ⟨b, 2, none⟩ = some (.int .i64 (p 2)) ∧ w'.cell? ⟨b, 3, none⟩ = some (.int .i64 (p 3)) ∧ w'.cell? ⟨b, 4, none⟩ = some (.int .i64 (p 4)) ∧ w'.cell? ⟨b, 5, none⟩ = some (.int .i64 (p 5)) ∧ Below w0.heap.size w0 w' := by
  obtain ⟨h0, h1, h2, h3, h4, h5, h6⟩ := h
  have hl := Nat.lt_of_lt_of_le hb0 h6.size
  exact ⟨(hb.cell (p := ⟨b, 0, none⟩) hl).trans h0, (hb.cell (p := ⟨b, 1, none⟩) hl).trans h1, (hb.cell (p := ⟨b, 2, none⟩) hl).trans h2, (hb.cell (p := ⟨b, 3, none⟩) hl).trans h3, (hb.cell (p := ⟨b, 4, none⟩) hl).trans h4, (hb.cell (p := ⟨b, 5, none⟩) hl).trans h5, h6.trans (hb.mono h6.size)⟩
theorem S_below {b : Nat} {p : Nat → Int} {w0 w : World} (h : w.cell? ⟨b, 0, none⟩ = some (.int .i64 (p 0)) ∧ w.cell? ⟨b, 1, none⟩ = some (.int .i64 (p 1)) ∧ w.cell? ⟨b, 2, none⟩ = some (.int .i64 (p 2)) ∧ w.cell? ⟨b, 3, none⟩ = some (.int .i64 (p 3)) ∧ w.cell? ⟨b, 4, none⟩ = some (.int .i64 (p 4)) ∧ w.cell? ⟨b, 5, none⟩ = some (.int .i64 (p 5)) ∧ Below w0.heap.size w0 w) : Below w0.heap.size w0 w := h.2.2.2.2.2.2
theorem startS {b : Nat} {p : Nat → Int} {w0 : World} {t : TypeId} {z : Nat × Nat} (h : w0.heap[b]? = some (.cells (P6 p) t z)) : w0.drew.cell? ⟨b, 0, none⟩ = some (.int .i64 (p 0)) ∧ w0.drew.cell? ⟨b, 1, none⟩ = some (.int .i64 (p 1)) ∧ w0.drew.cell? ⟨b, 2, none⟩ = some (.int .i64 (p 2)) ∧ w0.drew.cell? ⟨b, 3, none⟩ = some (.int .i64 (p 3)) ∧ w0.drew.cell? ⟨b, 4, none⟩ = some (.int .i64 (p 4)) ∧ w0.drew.cell? ⟨b, 5, none⟩ = some (.int .i64 (p 5)) ∧ Below w0.heap.size w0 w0.drew := by
  have key : ∀ k, w0.drew.cell? ⟨b, k, none⟩ = (P6 p)[k]? := fun k => cell_of_row _ _ _ _ _ _ h
  exact ⟨key 0, key 1, key 2, key 3, key 4, key 5, (Below.refl _ _).drew⟩

set_option maxRecDepth 100000 in
set_option maxHeartbeats 4000000 in
theorem keeps_walk (p : Nat → Int) (a : Option Addr) (cap : Nat) (L : List Sn) (w : World) (hL : L.length ≤ 150) (h : SN w a L w.heap.size) (hg : ∀ s ∈ L, SnGood s) (hnil : a = none → L.length = 0 ∧ cap = 0) (h36 : ∀ s ∈ L, s.cells.length = 36 ∧ ∀ v ∈ s.cells, v.oneCell' = true) :
    Calls Try.prog 3 #[.agg (P6 p), .slice a L.length cap] w fun e w' => e = .returned (.bool true) ∧ Below w.heap.size w w' := by
  have hbm : ∀ w, (Instr.buildSlice 24 1 #[(0, .agg mark.cells.toArray)]).run Try.prog w = .ok (.slice (some ⟨w.heap.size, 0, none⟩) 1 1) (w.alloc (.cells mark.cells.toArray 30)) := build_one mark rfl
  have HBM := Lib.hid hbm
  obtain ⟨i0, hi0, hz0, hz1, hz2⟩ := info_parts info30
  have I0 := Lib.hid hi0
  have H := Lib.hid h
  have HG := Lib.hid hg
  have HN := Lib.hid hnil
  have H36 := Lib.hid h36
  clear h hg hnil h36 hbm hi0
  go_enter Try.func3, Try.ntmps3
  go_wp2_with (fail)
  refine (alive_any _).mono ?_; rintro e w1 ⟨rfl, hb1⟩
  have hs1 := hb1.size
  rw [World.size_alloc] at hs1
  have hbw : Below w.heap.size w w1 := ((Below.refl _ _).alloc (Nat.le_refl _) _).trans (hb1.mono (by simp))
  have hbp : w1.heap[w.heap.size]? = some (.cells (P6 p) 23 (0, 0)) := (hb1.block _ (by simp)).trans (heap_alloc_new _ _)
  clear hb1
  go_wp2_with (fail)
  refine (long_no _ _ _ _ (by omega)).mono ?_; rintro e w2 ⟨rfl, rfl⟩
  go_wp2_with (at_make; refine wpList_make_own _ rfl _ _ 24 rfl w1.heap.size 30 i0 zagg 36 Try.underlying24 I0.out hz0 hz1 .i64 .i64 _ (L.length + 1) rfl rfl (by omega) (by rw [hz2]; omega) (by unfold maxLen; omega) (Nat.le_refl _) ?_)
  intro w2 hown2 hgrow2
  have hb2 : Below w1.heap.size w1 w2 := (Below.refl _ _).grown hgrow2 (Nat.le_refl _) (fun q hq => by cases hq)
  have hs2 := hb2.size
  clear hgrow2
  have hsrc : ∀ q, a = some q → ∀ j u, (flat L)[j]? = some u → w2.cell? (q.add j) = some u := by
    intro q hq j u hu
    have h36' : ∀ s ∈ L, s.cells.length = 36 := fun s hs => (H36.out s hs).1
    have hj : j < L.length * 36 := by rw [← flat_len L h36']; exact (List.getElem?_eq_some_iff.1 hu).1
    have hi : j / 36 < L.length := by omega
    obtain ⟨b, o, e, hB, hr, _, _⟩ := (H.out.below (hbw.trans (hb2.mono hbw.size))).addr (j / 36) hi
    rw [hq] at e
    cases e
    rw [Addr.add_mid]
    have e1 : at' L (j / 36) = L[j / 36] := by simp [at', hi]
    have h2 := hr (j % 36) u (by rw [e1, ← flat_get L h36' (j / 36) (j % 36) hi (by omega)]; rw [show j / 36 * 36 + j % 36 = j by omega]; exact hu)
    rw [show o + j / 36 * 36 + j % 36 = o + j by omega] at h2
    exact h2
  have HS := Lib.hid hsrc
  clear hsrc
  go_wp2_with (at_builtin; refine wpList_app_any rfl _ _ 24 rfl elem30 w1.heap.size _ _ _ rfl hown2 a L.length cap (flat L) rfl (flat_len L fun s hs => (H36.out s hs).1) HS.out HN.out (fun u hu => by obtain ⟨s, hs, hu⟩ := List.mem_flatMap.1 hu; exact (H36.out s hs).2 u hu) (by omega) w1 hb2 hs2 ?_)
  intro v3 w3 hown3 hb3
  have hs3 := hb3.size
  clear hown2 hb2 HS
  go_wp2_with (fail)
  refine (at_any _ 7 _).mono ?_
  rintro e w4 ⟨rfl, hb4⟩
  have hs4 := hb4.size
  have hown4 := ownsRow_below hown3 hb4
  have hb4w : Below w1.heap.size w1 w4 := hb3.trans (hb4.mono hs3)
  have HB4 := Lib.hid (HBM.out w4)
  clear hown3 hb3 hb4
  have hmk : (snz ⟨#[109, 97, 114, 107]⟩ 7).cells.toArray = mark.cells.toArray := rfl
  rw [hmk]
  have hl36 : mark.cells.length = 1 * 36 := rfl
  have hmc : ∀ j u, mark.cells[j]? = some u → (w4.alloc (.cells mark.cells.toArray 30)).cell? ((⟨w4.heap.size, 0, none⟩ : Addr).add j) = some u := by
    intro j u hu
    rw [Addr.add_mid, cell_of_row _ _ _ _ _ _ (heap_alloc_new w4 (.cells mark.cells.toArray 30)), Nat.zero_add]
    simpa using hu
  have h1m : ∀ u ∈ mark.cells, u.oneCell' = true := by decide
  have HMC := Lib.hid hmc
  have H1M := Lib.hid h1m
  have HL36 := Lib.hid hl36
  clear hmk hl36 hmc h1m
  generalize hmm : mark = mk at *
  have HMM := Lib.hid hmm
  clear hmm
  go_wp2_with (first | (refine wpList_buildSlice rfl 24 1 _ rfl #[(0, .agg mk.cells.toArray)] ?_ _ HB4.out ?_; (focus (first | (simp [Act.eval]; done) | (go_simp; done)))) | (at_builtin; refine wpList_app rfl _ _ 24 rfl elem30 w1.heap.size _ _ _ rfl (hown4.alloc _) ⟨w4.heap.size, 0, none⟩ 1 1 mk.cells rfl HL36.out HMC.out H1M.out (by omega) w1 (hb4w.alloc (by omega) _) (by simp; omega) ?_))
  intro v5 w5 hown5 hb5
  rcases hown5 with ⟨_, ⟨_, h0⟩ | ⟨g, gc, cur, rfl, hgB, hgc, hc1, hc2, hc3, hc4⟩⟩
  · exact absurd h0 (by omega)
  have hs5 := hb5.size
  have hgl := lt_of_block hgc
  have hL36 := flat_len L (fun s hs => (H36.out s hs).1)
  have HSN : Hid (SN w5 (some ⟨g, 0, none⟩) L w5.heap.size) := by
    have h1 : cur.toList.take (L.length * 36) = flat L := by
      have e1 : cur.toList.take (L.length * 36) = (cur.toList.take ((L.length + 1) * 36)).take (L.length * 36) := by rw [List.take_take, Nat.min_eq_left (by omega)]
      rw [e1, hc4, List.take_append_of_le_length (by omega), List.take_of_length_le (by omega)]
    have hO : w5.ownsRow w1.heap.size 30 36 (.slice (some ⟨g, 0, none⟩) L.length gc) L.length (flat L) := ⟨hL36, .inr ⟨g, gc, cur, rfl, hgB, hgc, by omega, hc2, hc3, h1⟩⟩
    obtain ⟨a', cap', e, hsn⟩ := SN_own hO (fun s hs => H36.out s hs)
    cases e
    exact Lib.hid hsn
  have hmk0 : w5.cell? ⟨g, L.length * 36, none⟩ = some (.string ⟨#[109, 97, 114, 107]⟩) := by
    rw [cell_of_row _ _ _ _ _ _ hgc]
    have h1 : (cur.toList.take ((L.length + 1) * 36))[L.length * 36]? = some (.string ⟨#[109, 97, 114, 107]⟩) := by
      rw [hc4, List.getElem?_append_right (by omega), hL36, Nat.sub_self, ← HMM.out]; rfl
    rwa [List.getElem?_take, if_pos (by omega), Array.getElem?_toList] at h1
  have MK0 := Lib.hid hmk0
  have hbw5 : Below w.heap.size w w5 := hbw.trans (hb5.mono hbw.size)
  have hbp5 := (hb5.block _ (by omega)).trans hbp
  clear hbp hbw hb5 hc4 hgc hL36 hmk0 hown4 hb4w HB4 HMC hc3
  go_wp2_with (first | (refine wpList_load_row rfl 23 _ rfl w.heap.size rfl 23 (P6 p) (0, 0) _ hbp5 Try.underlying23 rfl (by kernel_rfl) ?_))
  by_cases hok : PolOk p ∧ TimesOk L
  · refine (why_ok p _ gc L _ hok.1 (by omega) HSN.out hok.2).mono ?_
    rintro e w6 ⟨⟨yb, rfl, hrow1, hyb⟩, hb6⟩
    have hbp6 := (hb6.block _ (lt_of_block hbp5)).trans hbp5
    have hbw6 := hbw5.trans (hb6.mono hbw5.size)
    have HSN6 := Lib.hid (HSN.out.below hb6)
    have M6 := (hb6.cell (p := ⟨g, L.length * 36, none⟩) (block_lt_of_cell MK0.out)).trans MK0.out
    clear hbp5 hbw5 hb6 MK0
    go_wp2_with (first | (refine wpList_load_row rfl 23 _ rfl w.heap.size rfl 23 (P6 p) (0, 0) _ hbp6 Try.underlying23 rfl (by kernel_rfl) ?_))
    refine (whyR_ok p a cap L _ hok.1 (by omega) (H.out.below hbw6) hok.2).mono ?_
    rintro e w7 ⟨⟨zb, rfl, hrow2, hzb⟩, hb7⟩
    have hbp7 := (hb7.block _ (lt_of_block hbp6)).trans hbp6
    have hbw7 := hbw6.trans (hb7.mono hbw6.size)
    have hrow17 := (hb7.block _ (lt_of_block hrow1)).trans hrow1
    have HSN7 := Lib.hid (HSN6.out.below hb7)
    have M7 := Lib.hid ((hb7.cell (p := ⟨g, L.length * 36, none⟩) (block_lt_of_cell M6)).trans M6)
    clear hbp6 hbw6 hb7 M6 hrow1
    go_wp2_with (first | (refine wpList_load_row rfl 23 _ rfl w.heap.size rfl 23 (P6 p) (0, 0) _ hbp7 Try.underlying23 rfl (by kernel_rfl) ?_))
    refine (gone_ok p _ gc L _ hok.1 (by omega) HSN7.out hok.2).mono ?_
    rintro e w8 ⟨⟨gv, rfl, hgone⟩, hb8⟩
    have hbp8 := (hb8.block _ (lt_of_block hbp7)).trans hbp7
    have hbw8 := hbw7.trans (hb8.mono hbw7.size)
    have hrow18 := (hb8.block _ (lt_of_block hrow17)).trans hrow17
    have hrow28 := (hb8.block _ (lt_of_block hrow2)).trans hrow2
    have HSN8 := Lib.hid (HSN7.out.below hb8)
    have M8 := Lib.hid ((hb8.cell (p := ⟨g, L.length * 36, none⟩) (block_lt_of_cell M7.out)).trans M7.out)
    have HGO := Lib.hid hgone
    clear hbp7 hbw7 hb8 hrow17 hrow2 hgone
    go_wp2_with (first | (refine wpList_load_row rfl 23 _ rfl w.heap.size rfl 23 (P6 p) (0, 0) _ hbp8 Try.underlying23 rfl (by kernel_rfl) ?_))
    refine (goneRx_ok p a cap L _ hok.1 (by omega) (H.out.below hbw8) hok.2).mono ?_
    rintro e w9 ⟨⟨nv, rfl, hnames⟩, hb9⟩
    have hbp9 := (hb9.block _ (lt_of_block hbp8)).trans hbp8
    have hbw9 := hbw8.trans (hb9.mono hbw8.size)
    have hrow19 := (hb9.block _ (lt_of_block hrow18)).trans hrow18
    have hrow29 := (hb9.block _ (lt_of_block hrow28)).trans hrow28
    have HSN9 := Lib.hid (HSN8.out.below hb9)
    have M9 := Lib.hid ((hb9.cell (p := ⟨g, L.length * 36, none⟩) (block_lt_of_cell M8.out)).trans M8.out)
    have HB9 := Lib.hid hb9
    have HNA := Lib.hid hnames
    clear hbp8 hbw8 hb9 hrow18 hrow28 hnames
    go_wp2_with (first | (refine wpList_load_row rfl 23 _ rfl w.heap.size rfl 23 (P6 p) (0, 0) _ hbp9 Try.underlying23 rfl (by kernel_rfl) ?_))
    refine (keep_ok p _ gc L _ hok.1 (by omega) HSN9.out hok.2).mono ?_
    rintro e w10 ⟨⟨kv, rfl, hkeep⟩, hb10⟩
    have hbp10 := (hb10.block _ (lt_of_block hbp9)).trans hbp9
    have hbw10 := hbw9.trans (hb10.mono hbw9.size)
    have hrow1X := (hb10.block _ (lt_of_block hrow19)).trans hrow19
    have hrow2X := (hb10.block _ (lt_of_block hrow29)).trans hrow29
    have HSNX := Lib.hid (HSN9.out.below hb10)
    have MX := Lib.hid ((hb10.cell (p := ⟨g, L.length * 36, none⟩) (block_lt_of_cell M9.out)).trans M9.out)
    have HB10 := Lib.hid hb10
    have HKE := Lib.hid hkeep
    clear hbp9 hbw9 hb10 hrow19 hrow29 hkeep
    go_wp2_with (fail)
    obtain ⟨ga, gcap, rfl, hg8⟩ := strs_reads HGO.out
    have hgX := (hg8.below HB9.out).below HB10.out
    have hna9 := HNA.out
    rw [goneR_all] at hna9
    obtain ⟨na, ncap, rfl⟩ := ownsRow_shape hna9
    have hnX := (Reads.of_own (f := fun k => encStr ((goneS L p).getD k [])) hna9 (fun k hk => by rw [List.getElem?_map, List.getElem?_eq_getElem hk]; simp [hk])).below HB10.out
    obtain ⟨ka, kcap, rfl⟩ := ownsRow_shape HKE.out
    have hgl2 : (goneS L p).length ≤ 1000 := by have := gone_count L p; omega
    have KX := Lib.hid (Reads.of_own (f := fun k => .bool (keepB L p k)) HKE.out (fun k hk => by simp [keepV, hk]))
    have HI : Hid (∀ wx, Below w10.heap.size w10 wx → Calls Try.prog 15 #[.slice (some ⟨yb, 0, none⟩) L.length L.length, .slice (some ⟨zb, 0, none⟩) L.length L.length] wx fun e w' => e = .returned (.bool true) ∧ Below wx.heap.size wx w') :=
      Lib.hid fun wx hx => to_below (ints_same _ _ _ _ _ (fun k => (whyM L p 6 k : Nat)) wx (by omega) ((Reads.of_row hrow1X).below hx) ((Reads.of_row hrow2X).below hx))
    have HTX : Hid (∀ wx, Below w10.heap.size w10 wx → Calls Try.prog 17 #[.slice ga (goneS L p).length gcap, .slice na (goneS L p).length ncap] wx fun e w' => e = .returned (.bool true) ∧ Below wx.heap.size wx w') :=
      Lib.hid fun wx hx => to_below (texts_same _ _ _ _ _ (fun k => (goneS L p).getD k []) wx (by omega) (hgX.below hx) (hnX.below hx))
    have ST := Lib.hid (startS hbp10)
    have hbl := lt_of_block hbp10
    have HW10 := Lib.hid hbw10
    have HP := Lib.hid hok.1
    have R1X := Lib.hid hrow1X
    have R2X := Lib.hid hrow2X
    have hl23 : (Try.prog.info? 23).map (·.size) = some (P6 p).toList.length := by kernel_rfl
    have hu23 := Try.underlying23
    clear hg8 hgX hna9 hnX hbp10 hbw10 hrow1X hrow2X
    generalize goneS L p = gs at *
    go_region_held3 (fun w' => w'.cell? ⟨w.heap.size, 0, none⟩ = some (.int .i64 (p 0)) ∧ w'.cell? ⟨w.heap.size, 1, none⟩ = some (.int .i64 (p 1)) ∧ w'.cell? ⟨w.heap.size, 2, none⟩ = some (.int .i64 (p 2)) ∧ w'.cell? ⟨w.heap.size, 3, none⟩ = some (.int .i64 (p 3)) ∧ w'.cell? ⟨w.heap.size, 4, none⟩ = some (.int .i64 (p 4)) ∧ w'.cell? ⟨w.heap.size, 5, none⟩ = some (.int .i64 (p 5)) ∧ Below w10.heap.size w10 w') (first | exact ST.out | exact keepS hbl (by assumption) hbn) (first
      | (go_at_call 15; refine (HI.out _ (S_below (by assumption))).mono ?_; rintro e wz ⟨rfl, hbn⟩)
      | (go_at_call 16; refine (to_below0 (num_nil _)).mono ?_; rintro e wz ⟨rfl, hbn⟩)
      | (go_at_call 17; refine (HTX.out _ (S_below (by assumption))).mono ?_; rintro e wz ⟨rfl, hbn⟩)
      | (go_at_call 18; refine (check_ok p _ HP.out).mono ?_; rintro e wz ⟨rfl, hbn⟩)
      | (go_at_call 19; refine (checkR_ok p _ HP.out).mono ?_; rintro e wz ⟨rfl, hbn⟩))
    have hbf : Below w10.heap.size w10 wz := S_below (b := w.heap.size) (p := p) (by assumption)
    have HBF := Lib.hid hbf
    have MF := Lib.hid ((hbf.cell (p := ⟨g, L.length * 36, none⟩) (block_lt_of_cell MX.out)).trans MX.out)
    have HSF := Lib.hid (HSNX.out.below hbf)
    have HAF := Lib.hid (H.out.below (HW10.out.trans (hbf.mono HW10.out.size)))
    have KF := Lib.hid (KX.out.below hbf)
    have WF := Lib.hid ((hbf.block _ (lt_of_block R2X.out)).trans R2X.out)
    have hsf := hbf.size
    clear hbf
    go_wp2_with (fail)
    go_loopw [16, 108] (fun _ i wr => ∃ k : Nat, k ≤ L.length ∧ i = .int .i64 k ∧ ∃ m, wr = wz.drewN m) (fun _ i _ => L.length - (intOf i).toNat)
    case atStart => exact ⟨0, by omega, rfl, 0, rfl⟩
    case round =>
      obtain ⟨k, hk, rfl, m, rfl⟩ := hrel
      by_cases hlt : k < L.length
      · obtain ⟨kb, ko, rfl, hkc⟩ := KF.out k hlt
        have hwc : wz.cell? ⟨zb, k, none⟩ = some (.int .i64 (whyM L p 6 k : Nat)) := by rw [cell_of_row _ _ _ _ _ _ WF.out, row_get _ _ _ hlt]
        obtain ⟨b1, o1, e1, _, hr1, hlen, _⟩ := HSF.out.addr k hlt
        obtain ⟨b2, o2, rfl, _, hr2, _, _⟩ := HAF.out.addr k hlt
        obtain ⟨rfl, rfl⟩ : b1 = g ∧ o1 = 0 := by cases e1; exact ⟨rfl, rfl⟩
        have hne := neq_self (at' L k) (HG.out _ (by have : at' L k = L[k] := by simp [at', hlt]
                                                     rw [this]; exact List.getElem_mem hlt))
        simp only [keepB] at hkc
        generalize ((whyM L p 6 k : Nat) : Int) = y at hkc hwc
        generalize (at' L k).cells = cs at hr1 hr2 hlen hne
        have hisz : (Try.prog.info? 30).map (·.size) = some cs.length := by rw [hlen]; kernel_rfl
        have HR1 := Lib.hid hr1
        have HR2 := Lib.hid hr2
        have HIS := Lib.hid hisz
        have HLN := Lib.hid hlen
        clear e1 hr1 hr2 hisz hlen
        go_wp2_with (fail)
        refine wp_region_quiet_lit (by kernel_rfl) (by kernel_rfl) ?_
        iterate 14 (go_big_quiet_step (fail))
        go_big_quiet_want
        refine quiet_load_mid 30 _ rfl b1 (k * 36) (by simp [Act.eval]) cs _ (fun w' hw' => ?c1) Try.underlying30 rfl HIS.out ?_
        case c1 => obtain ⟨n, rfl⟩ := hw'; intro j v hj; have := HR1.out j v hj; rw [Nat.zero_add] at this; exact this
        simp only [Act.put, List.setIfInBounds_toArray, List.set_cons_succ, List.set_cons_zero]
        go_big_quiet_on
        iterate 3 (go_big_quiet_step (fail))
        go_big_quiet_want
        refine quiet_load_mid 30 _ rfl b2 (o2 + k * 36) (by simp [Act.eval]) cs _ (fun w' hw' => ?c2) Try.underlying30 rfl HIS.out ?_
        case c2 => obtain ⟨n, rfl⟩ := hw'; intro j v hj; have := HR2.out j v hj; exact this
        simp only [Act.put, List.setIfInBounds_toArray, List.set_cons_succ, List.set_cons_zero]
        go_big_quiet_on
        repeat (go_big_quiet_step (fail))
        refine wpQuiet_nil ?_
        intro _ hw'
        obtain ⟨nq, hw''⟩ := hw'
        subst hw''
        go_wp2_with (fail)
        go_roundw
        case rel => exact ⟨k + 1, by omega, by go_num, m + nq, rfl⟩
        case measure => simp [intOf]; omega
      · obtain rfl : k = L.length := by omega
        have hmf : wz.cell? ⟨g, L.length * 36, none⟩ = some (.string ⟨#[109, 97, 114, 107]⟩) := MF.out
        go_wp2_with (fail)
        go_ret
        exact ⟨rfl, HW10.out.trans ((BelowdN HBF.out _).mono HW10.out.size)⟩
  · refine (why_errC p _ gc L _ (by omega) HSN.out hok).mono ?_
    rintro e w6 ⟨rfl, hb6⟩
    have hbp6 := (hb6.block _ (lt_of_block hbp5)).trans hbp5
    have hbw6 := hbw5.trans (hb6.mono hbw5.size)
    have HSN6 := Lib.hid (HSN.out.below hb6)
    have M6 := (hb6.cell (p := ⟨g, L.length * 36, none⟩) (block_lt_of_cell MK0.out)).trans MK0.out
    clear hbp5 hbw5 hb6 MK0
    go_wp2_with (first | (refine wpList_load_row rfl 23 _ rfl w.heap.size rfl 23 (P6 p) (0, 0) _ hbp6 Try.underlying23 rfl (by kernel_rfl) ?_))
    refine (whyR_err p a cap L _ (by omega) (H.out.below hbw6) hok).mono ?_
    rintro e w7 ⟨rfl, hb7⟩
    have hbp7 := (hb7.block _ (lt_of_block hbp6)).trans hbp6
    have hbw7 := hbw6.trans (hb7.mono hbw6.size)
    have HSN7 := Lib.hid (HSN6.out.below hb7)
    have M7 := Lib.hid ((hb7.cell (p := ⟨g, L.length * 36, none⟩) (block_lt_of_cell M6)).trans M6)
    clear hbp6 hbw6 hb7 M6
    go_wp2_with (first | (refine wpList_load_row rfl 23 _ rfl w.heap.size rfl 23 (P6 p) (0, 0) _ hbp7 Try.underlying23 rfl (by kernel_rfl) ?_))
    refine (gone_errC p _ gc L _ (by omega) HSN7.out hok).mono ?_
    rintro e w8 ⟨rfl, hb8⟩
    have hbp8 := (hb8.block _ (lt_of_block hbp7)).trans hbp7
    have hbw8 := hbw7.trans (hb8.mono hbw7.size)
    have HSN8 := Lib.hid (HSN7.out.below hb8)
    have M8 := Lib.hid ((hb8.cell (p := ⟨g, L.length * 36, none⟩) (block_lt_of_cell M7.out)).trans M7.out)
    clear hbp7 hbw7 hb8
    go_wp2_with (first | (refine wpList_load_row rfl 23 _ rfl w.heap.size rfl 23 (P6 p) (0, 0) _ hbp8 Try.underlying23 rfl (by kernel_rfl) ?_))
    refine (goneRx_err p a cap L _ (by omega) (H.out.below hbw8) hok).mono ?_
    rintro e w9 ⟨rfl, hb9⟩
    have hbp9 := (hb9.block _ (lt_of_block hbp8)).trans hbp8
    have hbw9 := hbw8.trans (hb9.mono hbw8.size)
    have HSN9 := Lib.hid (HSN8.out.below hb9)
    have M9 := Lib.hid ((hb9.cell (p := ⟨g, L.length * 36, none⟩) (block_lt_of_cell M8.out)).trans M8.out)
    clear hbp8 hbw8 hb9
    go_wp2_with (first | (refine wpList_load_row rfl 23 _ rfl w.heap.size rfl 23 (P6 p) (0, 0) _ hbp9 Try.underlying23 rfl (by kernel_rfl) ?_))
    refine (keep_errC p _ gc L _ (by omega) HSN9.out hok).mono ?_
    rintro e w10 ⟨rfl, hb10⟩
    have hbp10 := (hb10.block _ (lt_of_block hbp9)).trans hbp9
    have hbw10 := hbw9.trans (hb10.mono hbw9.size)
    have MX := Lib.hid ((hb10.cell (p := ⟨g, L.length * 36, none⟩) (block_lt_of_cell M9.out)).trans M9.out)
    clear hbp9 hbw9 hb10
    go_wp2_with (fail)
    have HI : Hid (∀ wx, Calls Try.prog 15 #[.slice none 0 0, .slice none 0 0] wx fun e w' => e = .returned (.bool true) ∧ Below wx.heap.size wx w') :=
      Lib.hid fun wx => to_below (ints_same none none 0 0 0 (fun _ => 0) wx (by omega) (fun k hk => by omega) (fun k hk => by omega))
    have HTX : Hid (∀ wx, Calls Try.prog 17 #[.slice none 0 0, .slice none 0 0] wx fun e w' => e = .returned (.bool true) ∧ Below wx.heap.size wx w') :=
      Lib.hid fun wx => to_below (texts_same none none 0 0 0 (fun _ => []) wx (by omega) (fun k hk => by omega) (fun k hk => by omega))
    have ST := Lib.hid (startS hbp10)
    have hbl := lt_of_block hbp10
    have HW10 := Lib.hid hbw10
    have HC := Lib.hid (codeOf_ne p)
    have hl23 : (Try.prog.info? 23).map (·.size) = some (P6 p).toList.length := by kernel_rfl
    have hu23 := Try.underlying23
    clear hbp10 hbw10
    generalize codeOf p = cc at *
    have hcc : ∀ (v : Value) (c : Int) (wx : World), v = .iface 59 (.int .i64 c) → c = cc → Calls Try.prog 16 #[v] wx fun e w' => e = .returned (.int .i64 c) ∧ Below wx.heap.size wx w' := fun v c wx h1 h2 => num_any v c wx (.inr ⟨h1, by rw [h2]; exact HC.out⟩)
    clear hcc
    by_cases hp : PolOk p
    · have HP := Lib.hid hp
      clear hp hok
      go_region_held3 (fun w' => w'.cell? ⟨w.heap.size, 0, none⟩ = some (.int .i64 (p 0)) ∧ w'.cell? ⟨w.heap.size, 1, none⟩ = some (.int .i64 (p 1)) ∧ w'.cell? ⟨w.heap.size, 2, none⟩ = some (.int .i64 (p 2)) ∧ w'.cell? ⟨w.heap.size, 3, none⟩ = some (.int .i64 (p 3)) ∧ w'.cell? ⟨w.heap.size, 4, none⟩ = some (.int .i64 (p 4)) ∧ w'.cell? ⟨w.heap.size, 5, none⟩ = some (.int .i64 (p 5)) ∧ Below w10.heap.size w10 w') (first | exact ST.out | exact keepS hbl (by assumption) hbn) (first
        | (go_at_call 15; refine (HI.out _).mono ?_; rintro e wz ⟨rfl, hbn⟩)
        | (go_at_call 16; refine (num_any _ _ _ (by first | exact .inl ⟨rfl, rfl⟩ | exact .inr ⟨rfl, HC.out⟩ | exact .inr ⟨rfl, by decide⟩)).mono ?_; rintro e wz ⟨rfl, hbn⟩)
        | (go_at_call 17; refine (HTX.out _).mono ?_; rintro e wz ⟨rfl, hbn⟩)
        | (go_at_call 18; refine (check_ok p _ HP.out).mono ?_; rintro e wz ⟨rfl, hbn⟩)
        | (go_at_call 19; refine (checkR_ok p _ HP.out).mono ?_; rintro e wz ⟨rfl, hbn⟩))
      have hbf : Below w10.heap.size w10 wz := S_below (b := w.heap.size) (p := p) (by assumption)
      have HBF := Lib.hid hbf
      have MF := Lib.hid ((hbf.cell (p := ⟨g, L.length * 36, none⟩) (block_lt_of_cell MX.out)).trans MX.out)
      clear hbf
      go_wp2_with (fail)
      go_loopw [16, 108] (fun _ i wr => i = .int .i64 0 ∧ wr = wz) (fun _ _ _ => 0)
      case atStart => exact ⟨rfl, rfl⟩
      case round =>
        obtain ⟨rfl, rfl⟩ := hrel
        have hmf : wr.cell? ⟨g, L.length * 36, none⟩ = some (.string ⟨#[109, 97, 114, 107]⟩) := MF.out
        go_wp2_with (fail)
        go_ret
        exact ⟨rfl, HW10.out.trans (HBF.out.mono HW10.out.size)⟩
    · have HP := Lib.hid hp
      clear hp hok
      go_region_held3 (fun w' => w'.cell? ⟨w.heap.size, 0, none⟩ = some (.int .i64 (p 0)) ∧ w'.cell? ⟨w.heap.size, 1, none⟩ = some (.int .i64 (p 1)) ∧ w'.cell? ⟨w.heap.size, 2, none⟩ = some (.int .i64 (p 2)) ∧ w'.cell? ⟨w.heap.size, 3, none⟩ = some (.int .i64 (p 3)) ∧ w'.cell? ⟨w.heap.size, 4, none⟩ = some (.int .i64 (p 4)) ∧ w'.cell? ⟨w.heap.size, 5, none⟩ = some (.int .i64 (p 5)) ∧ Below w10.heap.size w10 w') (first | exact ST.out | exact keepS hbl (by assumption) hbn) (first
        | (go_at_call 15; refine (HI.out _).mono ?_; rintro e wz ⟨rfl, hbn⟩)
        | (go_at_call 16; refine (num_any _ _ _ (by first | exact .inl ⟨rfl, rfl⟩ | exact .inr ⟨rfl, HC.out⟩ | exact .inr ⟨rfl, by decide⟩)).mono ?_; rintro e wz ⟨rfl, hbn⟩)
        | (go_at_call 17; refine (HTX.out _).mono ?_; rintro e wz ⟨rfl, hbn⟩)
        | (go_at_call 18; refine (check_bad p _ HP.out).mono ?_; rintro e wz ⟨rfl, hbn⟩)
        | (go_at_call 19; refine (checkR_bad p _ HP.out).mono ?_; rintro e wz ⟨rfl, hbn⟩))
      have hbf : Below w10.heap.size w10 wz := S_below (b := w.heap.size) (p := p) (by assumption)
      have HBF := Lib.hid hbf
      have MF := Lib.hid ((hbf.cell (p := ⟨g, L.length * 36, none⟩) (block_lt_of_cell MX.out)).trans MX.out)
      clear hbf
      go_wp2_with (fail)
      go_loopw [16, 108] (fun _ i wr => i = .int .i64 0 ∧ wr = wz) (fun _ _ _ => 0)
      case atStart => exact ⟨rfl, rfl⟩
      case round =>
        obtain ⟨rfl, rfl⟩ := hrel
        have hmf : wr.cell? ⟨g, L.length * 36, none⟩ = some (.string ⟨#[109, 97, 114, 107]⟩) := MF.out
        go_wp2_with (fail)
        go_ret
        exact ⟨rfl, HW10.out.trans (HBF.out.mono HW10.out.size)⟩

theorem keeps_all (p : Nat → Int) (a : Option Addr) (cap : Nat) (L : List Sn) (w : World) (h : SN w a L w.heap.size) (hg : ∀ s ∈ L, SnGood s) (hnil : a = none → L.length = 0 ∧ cap = 0) (h36 : ∀ s ∈ L, s.cells.length = 36 ∧ ∀ v ∈ s.cells, v.oneCell' = true) :
    Calls Try.prog 3 #[.agg (P6 p), .slice a L.length cap] w fun e w' => e = .returned (.bool true) ∧ Below w.heap.size w w' := by
  by_cases hL : L.length ≤ 150
  · exact keeps_walk p a cap L w hL h hg hnil h36
  · exact keeps_long p a L.length cap w (by omega)
end Go.Proofs.Ytijkadahcggmeaa
