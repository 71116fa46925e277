/- What Why of the document's answer does. -/
import Derived.Test.YtijkadahcggmeaaR5
namespace Go.Proofs.Ytijkadahcggmeaa
open Go.RowKit Go.Sort

theorem elem3 : Elem Try.prog 32 3 (.int .i64 0) 1 8 := ⟨Try.underlying32, by kernel_rfl, rfl, by decide, by decide⟩
theorem ownsRow_below {w w' : World} {B : Nat} {e : TypeId} {s n : Nat} {v : Value} {xs : List Value} (h : w.ownsRow B e s v n xs) (hb : Below w.heap.size w w') : w'.ownsRow B e s v n xs :=
  ⟨h.1, h.2.imp id (fun ⟨g, cap, cur, a, b, c, r⟩ => ⟨g, cap, cur, a, b, (hb.block g (lt_of_block c)).trans c, r⟩)⟩
theorem ownsRow_set {w : World} {B : Nat} {e : TypeId} {s n : Nat} {v : Value} {xs : List Value} (h : w.ownsRow B e s v n xs) {ob : Nat} (hb : ob < B) (o : Nat) (u : Value) : (w.setCell ⟨ob, o, none⟩ u).drew.ownsRow B e s v n xs :=
  ⟨h.1, h.2.imp id (fun ⟨g, cap, cur, a, b, c, r⟩ => ⟨g, cap, cur, a, b, (by rw [heap_drew, Below.heap_setCell _ _ _ _ (by simp only; omega)]; exact c), r⟩)⟩
theorem _root_.Go.RowKit.Below.mono' {B C : Nat} {a w : World} (h : Below C a w) (hB : B ≤ C) : Below B a w := h.mono hB
theorem ownsRow_shape {w : World} {B : Nat} {e : TypeId} {s n : Nat} {v : Value} {xs : List Value} (h : w.ownsRow B e s v n xs) : ∃ ad c, v = .slice ad n c := by
  rcases h with ⟨_, ⟨rfl, h0⟩ | ⟨g, gc, cur, rfl, _⟩⟩
  · subst h0; exact ⟨_, _, rfl⟩
  · exact ⟨_, _, rfl⟩
theorem last_of {K : List Nat} (h : K ≠ []) : K.getLast? = some (K.getLastD 0) ∧ K.getLastD 0 ∈ K := by
  cases hq : K.getLast? with
  | none => exact absurd (List.getLast?_eq_none_iff.1 hq) h
  | some x =>
    have e : K.getLastD 0 = x := by rw [List.getLastD_eq_getLast?, hq]; rfl
    rw [e]; exact ⟨rfl, List.mem_of_getLast? hq⟩
theorem mid_addI (L : List Sn) (p : Nat → Int) (k : Nat) (K : List Nat) (i : Nat) (h : i ∉ K) : ((mid L p k K i : Nat) : Int) + (2 : Int) ^ k = ((mid L p k K i ||| 2 ^ k : Nat) : Int) := by
  have e : ((2 ^ k : Nat) : Int) = (2 : Int) ^ k := by simp
  rw [← mid_add L p k K i h, ← e]; omega
theorem one1 (u : Value) (h : u.oneCell' = true) : ∀ x ∈ [u], x.oneCell' = true := fun x hx => by rw [List.mem_singleton.1 hx]; exact h
theorem times_cell {w : World} {a : Option Addr} {L : List Sn} {B : Nat} (h : SN w a L B) {i : Nat} (hi : i < L.length) : ∃ b o, a = some ⟨b, o, none⟩ ∧ w.cell? ⟨b, o + i * 36 + 1, none⟩ = some (.int .i64 (at' L i).time) := by
  obtain ⟨b, o, e, _, hr, _, _⟩ := h.addr i hi
  exact ⟨b, o, e, hr 1 _ rfl⟩

set_option maxRecDepth 100000 in
set_option maxHeartbeats 4000000 in
theorem whyR_ok (p : Nat → Int) (a : Option Addr) (cap : Nat) (L : List Sn) (w : World) (hp : PolOk p) (hL : L.length ≤ 1000) (h : SN w a L w.heap.size) (ht : TimesOk L) :
    Calls Try.prog 11 #[.agg (P6 p), .slice a L.length cap] w fun e w' => (∃ b, e = .returned (.tuple #[.slice (some ⟨b, 0, none⟩) L.length L.length, .int .i64 0]) ∧
      w'.heap[b]? = some (.cells (row L.length (whyM L p 6)) 3 (0, 0)) ∧ w.heap.size ≤ b) ∧ Below w.heap.size w w' := by
  have hmk := run_make_row' (P := Try.prog) 32 3 (.int .i64 0) 8 Try.underlying32 info3 rfl .i64 .i64 L.length (by omega) (by omega)
  have HMK := Lib.hid hmk
  have H := Lib.hid h
  have HT := Lib.hid ht
  clear h ht hmk
  go_enter Try.func11, Try.ntmps11
  go_wp2_with (fail)
  refine (checkR_ok p _ hp).mono ?_; rintro e w1 ⟨rfl, hb1⟩
  have hpol : w1.heap[w.heap.size]? = some (.cells (P6 p) 23 (0, 0)) := (hb1.block _ (by simp)).trans (heap_alloc_new _ _)
  have hbw1 : Below w.heap.size w w1 := ((Below.refl _ _).alloc (Nat.le_refl _) _).trans (hb1.mono (by simp))
  have hs1 : w.heap.size < w1.heap.size := by have := hb1.size; simp at this; omega
  clear hb1
  go_wp2_with (fail)
  go_loopw [7] (fun i wr => ∃ k : Nat, k ≤ L.length ∧ i = .int .i64 k ∧ Below w1.heap.size w1 wr) (fun i _ => L.length - (intOf i).toNat)
  case atStart => exact ⟨0, by omega, rfl, Below.refl _ _⟩
  case round =>
    obtain ⟨k, hk, rfl, hbr⟩ := hrel
    have hsr := hbr.size
    by_cases hlt : k < L.length
    · obtain ⟨b, o, rfl, hc⟩ := times_cell (H.out.below (hbw1.trans (hbr.mono (by omega)))) hlt
      have tt := HT.out k hlt
      go_wp2_with (fail)
      refine (bucketR_any 1 (at' L k).time _ (by omega) (by omega) tt.1 tt.2).mono ?_
      rintro e w2 ⟨rfl, hb2⟩
      go_wp2_with (fail)
      go_roundw
      case rel => exact ⟨k + 1, by omega, by go_num, hbr.trans (hb2.mono hsr)⟩
      case measure => simp [intOf]; omega
    · obtain rfl : k = L.length := by omega
      obtain ⟨wo, rfl⟩ : ∃ wo : World, wo = wr := ⟨_, rfl⟩
      have hpolo := (hbr.block _ hs1).trans hpol
      have hbwo : Below w.heap.size w wo := hbw1.trans (hbr.mono (by omega))
      have hso : w.heap.size < wo.heap.size := by omega
      clear hbr hbw1 hpol
      have hmk := HMK.out
      have hpol2 : ∀ o, (wo.alloc o).heap[w.heap.size]? = some (.cells (P6 p) 23 (0, 0)) := fun o => (Below.heap_alloc _ _ _ hso).trans hpolo
      clear hpolo
      go_wp2_with (first | (refine wpList_load_row rfl 23 _ rfl w.heap.size rfl 23 (P6 p) (0, 0) _ (hpol2 _) Try.underlying23 rfl (by kernel_rfl) ?_))
      refine (numbersR_any p _).mono ?_; rintro e w3 ⟨⟨nb, rfl, hn3, hnb⟩, hb3⟩
      have hout3 : w3.heap[wo.heap.size]? = some (.cells (row L.length (whyM L p 0)) 3 (0, 0)) := (hb3.block _ (by simp)).trans (new_row _ _ _)
      have hs3 : wo.heap.size < w3.heap.size := by have := hb3.size; simp at this; omega
      have hbw3 : Below w.heap.size w w3 := (hbwo.alloc hbwo.size _).trans (hb3.mono (by simp; omega))
      rw [World.size_alloc] at hnb
      have hnb3 := lt_of_block hn3
      clear hb3 hmk hpol2
      go_wp2_with (fail)
      refine (orderR_any a cap L _ hL (H.out.below hbw3)).mono ?_; rintro e w4 ⟨⟨qb, rfl, hq4, hqb⟩, hb4⟩
      have hn4 := (hb4.block _ hnb3).trans hn3
      have hout4 := (hb4.block _ hs3).trans hout3
      have hs4 := hb4.size
      have hqb4 := lt_of_block hq4
      have hbw4 : Below w.heap.size w w4 := hbw3.trans (hb4.mono hbw3.size)
      clear hb4 hout3 hbwo
      go_wp2_with (fail)
      generalize wo.heap.size = ob at hout4 hso hnb hs3 ⊢
      have hob4 : ob < w4.heap.size := by omega
      have hobn : ob ≠ nb := by omega
      have hobq : ob ≠ qb := by omega
      clear hbw3 hn3
      go_loopw [11, 12] (fun u i wq => ∃ k : Nat, k ≤ 6 ∧ i = .int .i64 k ∧ u = .int .i64 ((2 : Int) ^ k) ∧ w4.heap.size ≤ wq.heap.size ∧ wq.heap[ob]? = some (.cells (row L.length (whyM L p k)) 3 (0, 0)) ∧ (∀ b, b < w4.heap.size → b ≠ ob → wq.heap[b]? = w4.heap[b]?) ∧ Below w.heap.size w wq) (fun _ i _ => 6 - (intOf i).toNat)
      case atStart => exact ⟨0, by omega, rfl, by simp, Nat.le_refl _, hout4, fun _ _ _ => rfl, hbw4⟩
      case round =>
        obtain ⟨k, hk6, rfl, rfl, hsq, hrow, hkq, hbq⟩ := hrel
        obtain ⟨wq, rfl⟩ : ∃ wq : World, wq = wr := ⟨_, rfl⟩
        by_cases hlt : k < 6
        · have hpk := hp.1 k hlt
          have h2k : (2 : Nat) ^ (k + 1) = 2 * 2 ^ k := by rw [Nat.pow_succ]; omega
          have h6 : (2 : Nat) ^ k ≤ 2 ^ 6 := Nat.pow_le_pow_right (by omega) (by omega)
          have H2K := Lib.hid h2k
          have h6i : 1 ≤ (2 : Int) ^ k ∧ (2 : Int) ^ k ≤ 64 := by
            have e : ((2 ^ k : Nat) : Int) = (2 : Int) ^ k := by simp
            have h0 : 0 < (2 : Nat) ^ k := Nat.pow_pos (by omega)
            rw [← e]; omega
          clear h2k
          have hnq := (hkq nb (by omega) (Ne.symm hobn)).trans hn4
          have hqq := (hkq qb (by omega) (Ne.symm hobq)).trans hq4
          obtain ⟨Bk, hBk⟩ : ∃ Bk, Bk = wq.heap.size := ⟨_, rfl⟩
          have HBK := Lib.hid hBk
          have hBk1 : w4.heap.size ≤ Bk := by omega
          have hobk : ob < Bk := by omega
          have HN := Lib.hid hnq
          have HQ := Lib.hid hqq
          have HKQ := Lib.hid hkq
          clear hkq hnq hqq hBk
          go_wp2_with (fail)
          have hlti : (k : Int) < 6 := by omega
          simp only [hlti, decide_true]
          go_loopw [13, 14] (fun v i wi => ∃ j : Nat, j ≤ L.length ∧ i = .int .i64 j ∧
            wi.ownsRow Bk 3 1 v (rrun (bk L k) (p k) ((ord L).take j)).kept.length ((rrun (bk L k) (p k) ((ord L).take j)).kept.map fun x : Nat => Value.int .i64 (x : Int)) ∧
            Bk ≤ wi.heap.size ∧
            wi.heap[ob]? = some (.cells (row L.length (mid L p k (rrun (bk L k) (p k) ((ord L).take j)).kept)) 3 (0, 0)) ∧
            (∀ b, b < Bk → b ≠ ob → wi.heap[b]? = wq.heap[b]?) ∧ Below w.heap.size w wi) (fun _ i _ => L.length - (intOf i).toNat)
          case atStart => exact ⟨0, by omega, rfl, World.ownsRow_nil _ _ _ _, by rw [HBK.out]; exact Nat.le_refl _, by rw [show (rrun (bk L k) (p k) ((ord L).take 0)).kept = [] from rfl, mid_nil]; exact hrow, fun _ _ _ => rfl, hbq⟩
          case round =>
            clear hrow hbq
            obtain ⟨j, hj, rfl, hown, hsi, hrow, hki, hbi⟩ := hrel
            obtain ⟨wi, rfl⟩ : ∃ wi : World, wi = wr := ⟨_, rfl⟩
            have hnc : wi.cell? ⟨nb, k, none⟩ = some (.int .i64 (p k)) := by
              rw [cell_of_row _ _ _ _ _ _ ((hki nb (by omega) (Ne.symm hobn)).trans HN.out)]
              obtain rfl | rfl | rfl | rfl | rfl | rfl : k = 0 ∨ k = 1 ∨ k = 2 ∨ k = 3 ∨ k = 4 ∨ k = 5 := by omega
              all_goals rfl
            have hqi := (hki qb (by omega) (Ne.symm hobq)).trans HQ.out
            have inv := rrun_inv (bk L k) (p k) ((ord L).take j)
            have hll := rrun_left (bk L k) (p k) hpk.1 ((ord L).take j)
            have hsub : ∀ x ∈ (rrun (bk L k) (p k) ((ord L).take j)).kept, x < L.length := fun x hx => by
              have h1 := List.mem_of_mem_take (rrun_sub _ _ _ _ hx)
              have := (mergeSort_perm' L).mem_iff.1 h1; simpa using this
            have hkl : (rrun (bk L k) (p k) ((ord L).take j)).kept.length ≤ 1048576 := by omega
            have hwhole := rrun_full (bk L k) (p k) ((ord L).take j) ((ord L).drop j)
            rw [List.take_append_drop] at hwhole
            by_cases hjl : j < L.length
            · have hjo : j < (ord L).length := by rw [ord_length]; exact hjl
              have hi := ord_lt L j hjo
              have hst := rrun_take (bk L k) (p k) (ord L) j hjo
              have hnin := not_in_take L (bk L k) (p k) j hjo
              have hfil : filled L L.length j = (ord L)[j] := by rw [filled_all L j hjl]; simp [hjo]
              generalize (ord L)[j] = i at hi hst hnin hfil
              have QF := Lib.hid hfil
              have qc : wi.cell? ⟨qb, j, none⟩ = some (.int .i64 (i : Nat)) := by rw [cell_of_row _ _ _ _ _ _ hqi, row_get _ _ _ hjl, QF.out]
              generalize hSS : rrun (bk L k) (p k) ((ord L).take j) = S at hst hnin inv hll hsub hkl hwhole hown hrow
              obtain ⟨left, any, last, K⟩ := S
              simp only at hst hnin inv hll hsub hkl hwhole hown hrow
              have MA := Lib.hid (mid_addI L p k K i hnin)
              have HST := Lib.hid hst
              have INV := Lib.hid inv
              have HW := Lib.hid hwhole
              have HSUB := Lib.hid hsub
              have HNIN := Lib.hid hnin
              have HSS := Lib.hid hSS
              have HROW := Lib.hid hrow
              have HQI := Lib.hid hqi
              have HKI := Lib.hid hki
              have hleft : left = p k - K.length := inv.1
              obtain ⟨ad, gc, rfl⟩ := ownsRow_shape hown
              by_cases hful : p k ≤ (K.length : Int)
              · -- enough
                have hl0 : left = 0 := by omega
                have KO := Lib.hid (show keptOf L p k = K by unfold keptOf; rw [HW.out hl0])
                clear hst hnin inv hSS hrow hqi hki hwhole hsub hl0 hleft
                go_wp2_with (fail)
                go_roundw
                case rel => exact ⟨k + 1, by omega, by go_num, vint (by rw [Int.pow_succ]; omega), by omega, by have h : row L.length (whyM L p (k + 1)) = row L.length (mid L p k K) := row_congr (fun m _ => by simp only [whyM, mid]; rw [KO.out]); rw [h]; exact HROW.out, fun b h1 h2 => (HKI.out b (by omega) h2).trans (HKQ.out b h1 h2), hbi⟩
                case measure => simp [intOf]; omega
              · have hleft2 : left ≠ 0 := by omega
                by_cases hbc : 0 < k ∧ K ≠ []
                · obtain ⟨hk0, hKne⟩ := hbc
                  have hlast : last = bk L k (K.getLastD 0) := inv.2.2 hKne
                  have hany : any = true := by rw [inv.2.1]; simpa using hKne
                  have hl := hsub (K.getLastD 0) (last_of hKne).2
                  have hKlen : 0 < K.length := List.length_pos_iff.2 hKne
                  have hbkl : bk L k (K.getLastD 0) = Cal.bkt k (at' L (K.getLastD 0)).time := by unfold bk; rw [if_neg (by omega)]
                  have hbki : bk L k i = Cal.bkt k (at' L i).time := by unfold bk; rw [if_neg (by omega)]
                  have hKlast := (last_of hKne).1
                  generalize K.getLastD 0 = q at hlast hl hbkl hKlast
                  obtain ⟨b, o, rfl, hct⟩ := times_cell (H.out.below hbi) hl
                  obtain ⟨b', o', e', hct2⟩ := times_cell (H.out.below hbi) hi
                  obtain ⟨rfl, rfl⟩ : b = b' ∧ o = o' := by cases e'; exact ⟨rfl, rfl⟩
                  have tq := HT.out q hl
                  have ti := HT.out i hi
                  rcases hown with ⟨hol, ⟨_, h0⟩ | ⟨g, gc', cur, e2, hgB, hg, hg1, hg2, hg3, hg4⟩⟩
                  · omega
                  obtain ⟨rfl, rfl⟩ : ad = some ⟨g, 0, none⟩ ∧ gc = gc' := by cases e2; exact ⟨rfl, rfl⟩
                  have hkc : wi.cell? ⟨g, K.length - 1, none⟩ = some (.int .i64 (q : Int)) := by
                    rw [cell_of_row _ _ _ _ _ _ hg]
                    rw [Nat.mul_one] at hg4
                    have h1 : (cur.toList.take K.length)[K.length - 1]? = some (.int .i64 (q : Int)) := by
                      rw [hg4, List.getElem?_map, ← List.getLast?_eq_getElem?, hKlast]; rfl
                    rwa [List.getElem?_take, if_pos (by omega), Array.getElem?_toList] at h1
                  have hown : wi.ownsRow Bk 3 1 (.slice (some ⟨g, 0, none⟩) K.length gc) K.length (K.map fun x : Nat => Value.int .i64 (x : Int)) := ⟨hol, .inr ⟨g, gc, cur, rfl, hgB, hg, hg1, hg2, hg3, hg4⟩⟩
                  have HOWN := Lib.hid hown
                  have hgl := lt_of_block hg
                  have hsub1 : ((K.length : Int) - 1).toNat = K.length - 1 := by omega
                  have hLa := Lib.hid hlast
                  have hAn := Lib.hid hany
                  have hBkl := Lib.hid hbkl
                  have hBki := Lib.hid hbki
                  have HG1 := Lib.hid hsub1
                  clear hst hnin inv hSS hrow hqi hki hwhole hsub hleft hlast hany hbkl hbki hol hg hg4 hown hKlast hsub1 e' e2 hKne
                  go_wp2_with (fail)
                  refine (bucketR_any k (at' L q).time _ (by omega) (by omega) tq.1 tq.2).mono ?_
                  rintro e wa ⟨rfl, hba⟩
                  have hsa := hba.size
                  have hqca : wa.cell? ⟨qb, j, none⟩ = some (.int .i64 (i : Nat)) := (hba.cell (p := ⟨qb, j, none⟩) (block_lt_of_cell qc)).trans qc
                  have hcta : wa.cell? ⟨b, o + i * 36 + 1, none⟩ = some (.int .i64 (at' L i).time) := (hba.cell (p := ⟨b, o + i * 36 + 1, none⟩) (block_lt_of_cell hct2)).trans hct2
                  have HBA := Lib.hid hba
                  clear hba qc hct hct2 hkc
                  go_wp2_with (fail)
                  refine (bucketR_any k (at' L i).time _ (by omega) (by omega) ti.1 ti.2).mono ?_
                  rintro e wb ⟨rfl, hbb⟩
                  have hsb := hbb.size
                  have hqcb : wb.cell? ⟨qb, j, none⟩ = some (.int .i64 (i : Nat)) := (hbb.cell (p := ⟨qb, j, none⟩) (block_lt_of_cell hqca)).trans hqca
                  have hwb : Below wi.heap.size wi wb := HBA.out.trans (hbb.mono' hsa)
                  have HWB := Lib.hid hwb
                  clear hbb hqca hcta hwb HBA
                  by_cases heq : Cal.bkt k (at' L q).time = Cal.bkt k (at' L i).time
                  · have hb1 : (Cal.bkt k (at' L q).time == Cal.bkt k (at' L i).time) = true := by simpa using heq
                    have S2 := Lib.hid (show rrun (bk L k) (p k) ((ord L).take (j + 1)) = ⟨left, any, last, K⟩ by rw [HST.out]; exact if_pos (.inr ⟨hAn.out, by show last = _; rw [hLa.out, hBkl.out, hBki.out]; exact heq⟩))
                    clear heq
                    go_wp2_with (fail)
                    go_roundw
                    case rel => exact ⟨j + 1, by omega, by go_num, by rw [S2.out]; exact ownsRow_below HOWN.out HWB.out, by omega, by rw [S2.out]; exact (HWB.out.block ob (by omega)).trans HROW.out, fun b h1 h2 => (HWB.out.block b (by omega)).trans (HKI.out b h1 h2), hbi.trans (HWB.out.mono' hbi.size)⟩
                    case measure => simp [intOf]; omega
                  · have hb1 : (Cal.bkt k (at' L q).time == Cal.bkt k (at' L i).time) = false := by simpa using heq
                    have S2 := Lib.hid (show rrun (bk L k) (p k) ((ord L).take (j + 1)) = ⟨left - 1, true, bk L k i, K ++ [i]⟩ by rw [HST.out]; exact if_neg (by rintro (h | ⟨_, h⟩); exact hleft2 h; exact heq (by rw [← hBkl.out, ← hBki.out, ← hLa.out]; exact h)))
                    clear heq
                    have hown3 := ownsRow_below HOWN.out HWB.out
                    have hqcc := hqcb
                    have hsc := hsb
                    go_wp2_with (at_builtin; refine wpList_app rfl _ _ 32 rfl elem3 Bk _ _ _ rfl (hown3.alloc _) _ 1 1 [.int .i64 (i : Int)] rfl rfl (cell_one_new _ _ _) (one1 _ rfl) (by omega) wb ((Below.refl _ _).alloc (by omega) _) (by simp; omega) ?_)
                    intro v2 w2 hown2 hb2
                    have hs2 := hb2.size
                    have hru2 := (hb2.block ob (by omega)).trans ((HWB.out.block ob (by omega)).trans HROW.out)
                    have hq2 := (hb2.block qb (by omega)).trans ((HWB.out.block qb (by omega)).trans HQI.out)
                    have qc : w2.cell? ⟨qb, j, none⟩ = some (.int .i64 (i : Nat)) := by rw [cell_of_row _ _ _ _ _ _ hq2, row_get _ _ _ hjl, QF.out]
                    have oc : w2.cell? ⟨ob, i, none⟩ = some (.int .i64 (mid L p k K i : Nat)) := by rw [cell_of_row _ _ _ _ _ _ hru2, row_get _ _ _ hi]
                    have of' : w2.frozen? ⟨ob, i, none⟩ = false := frozen_of_row w2 ob i _ 3 hru2
                    have hmb := mid_lt L p k K i
                    have hb2w : Below w.heap.size w w2 := (hbi.trans (HWB.out.mono' hbi.size)).trans (hb2.mono' (by omega))
                    have hbk2 : ∀ b, b < Bk → b ≠ ob → w2.heap[b]? = wq.heap[b]? := fun b h1 h2 => (hb2.block b h1).trans ((fun b h1 h2 => (HWB.out.block b (by omega)).trans (HKI.out b h1 h2)) b h1 h2)
                    have R2 := Lib.hid hru2
                    have Q2 := Lib.hid hq2
                    have O2 := Lib.hid hown2
                    have B2 := Lib.hid hb2w
                    have K2 := Lib.hid hbk2
                    clear hru2 hq2 hown2 hb2 hb2w hbk2 hqcb hqcc hown3
                    go_wp2_with (fail)
                    go_region
                    go_wp2_with (fail)
                    go_roundw
                    case rel =>
                      refine ⟨j + 1, by omega, by go_num, ?_, ?_, ?_, ?_, ?_⟩
                      · rw [S2.out]; have h := O2.out; simp only [List.length_append, List.length_singleton, List.map_append, List.map_cons, List.map_nil]; exact ownsRow_set h hobk _ _
                      · rw [World.size_drew, World.size_setCell]; omega
                      · rw [S2.out, mid_snoc]; exact row_store R2.out hi (MA.out)
                      · intro b h1 h2; rw [heap_drew, Below.heap_setCell _ _ _ _ (by simp only; omega)]; exact K2.out b h1 h2
                      · exact (B2.out.setCell (by simp only; omega) _).drew
                    case measure => simp [intOf]; omega
                · -- no bucket is asked
                  have hno : ¬ RS.no ⟨left, any, last, K⟩ (bk L k i) := by
                    rintro (h | ⟨h1, h2⟩)
                    · exact hleft2 h
                    · have h1' : any = true := h1
                      have hKne : K ≠ [] := by rw [inv.2.1] at h1'; simpa using h1'
                      have hk0 : k = 0 := by
                        by_cases e : k = 0
                        · exact e
                        · exact absurd ⟨by omega, hKne⟩ hbc
                      subst hk0
                      have h2' : last = bk L 0 i := h2
                      rw [inv.2.2 hKne] at h2'
                      have e1 : ∀ x, bk L 0 x = (x : Int) := fun x => by unfold bk; rw [if_pos rfl]
                      rw [e1, e1] at h2'
                      have : K.getLastD 0 = i := by omega
                      exact hnin (this ▸ (last_of hKne).2)
                  have S2 := Lib.hid (show rrun (bk L k) (p k) ((ord L).take (j + 1)) = ⟨left - 1, true, bk L k i, K ++ [i]⟩ by rw [HST.out]; exact if_neg hno)
                  have hg2 : k = 0 ∨ (0 < k ∧ K.length = 0) := by
                    by_cases e : k = 0
                    · exact .inl e
                    · refine .inr ⟨by omega, ?_⟩
                      cases K with
                      | nil => rfl
                      | cons x K => exact absurd ⟨by omega, by simp⟩ hbc
                  clear hst hnin inv hSS hrow hqi hki hwhole hsub hleft hno hbc
                  have HOWN := Lib.hid hown
                  clear hown
                  rcases hg2 with hk0 | ⟨hk0, hK0⟩
                  · have hd : decide ((0 : Int) < (k : Int)) = false := by simp; omega
                    have hd2 : decide (0 < k) = false := by simp; omega
                    have HK0 := Lib.hid hk0
                    clear hk0
                    have hown3 := HOWN.out
                    have hsc := hsi
                    go_wp2_with (at_builtin; refine wpList_app rfl _ _ 32 rfl elem3 Bk _ _ _ rfl (hown3.alloc _) _ 1 1 [.int .i64 (i : Int)] rfl rfl (cell_one_new _ _ _) (one1 _ rfl) (by omega) wi ((Below.refl _ _).alloc (by omega) _) (by simp; omega) ?_)
                    intro v2 w2 hown2 hb2
                    have hs2 := hb2.size
                    have hru2 := (hb2.block ob (by omega)).trans HROW.out
                    have hq2 := (hb2.block qb (by omega)).trans HQI.out
                    have qc : w2.cell? ⟨qb, j, none⟩ = some (.int .i64 (i : Nat)) := by rw [cell_of_row _ _ _ _ _ _ hq2, row_get _ _ _ hjl, QF.out]
                    have oc : w2.cell? ⟨ob, i, none⟩ = some (.int .i64 (mid L p k K i : Nat)) := by rw [cell_of_row _ _ _ _ _ _ hru2, row_get _ _ _ hi]
                    have of' : w2.frozen? ⟨ob, i, none⟩ = false := frozen_of_row w2 ob i _ 3 hru2
                    have hmb := mid_lt L p k K i
                    have hb2w : Below w.heap.size w w2 := hbi.trans (hb2.mono' (by omega))
                    have hbk2 : ∀ b, b < Bk → b ≠ ob → w2.heap[b]? = wq.heap[b]? := fun b h1 h2 => (hb2.block b h1).trans (HKI.out b h1 h2)
                    have R2 := Lib.hid hru2
                    have Q2 := Lib.hid hq2
                    have O2 := Lib.hid hown2
                    have B2 := Lib.hid hb2w
                    have K2 := Lib.hid hbk2
                    clear hru2 hq2 hown2 hb2 hb2w hbk2 hown3
                    go_wp2_with (fail)
                    go_region
                    go_wp2_with (fail)
                    go_roundw
                    case rel =>
                      refine ⟨j + 1, by omega, by go_num, ?_, ?_, ?_, ?_, ?_⟩
                      · rw [S2.out]; have h := O2.out; simp only [List.length_append, List.length_singleton, List.map_append, List.map_cons, List.map_nil]; exact ownsRow_set h hobk _ _
                      · rw [World.size_drew, World.size_setCell]; omega
                      · rw [S2.out, mid_snoc]; exact row_store R2.out hi (MA.out)
                      · intro b h1 h2; rw [heap_drew, Below.heap_setCell _ _ _ _ (by simp only; omega)]; exact K2.out b h1 h2
                      · exact (B2.out.setCell (by simp only; omega) _).drew
                    case measure => simp [intOf]; omega
                  · have hd : decide ((0 : Int) < (K.length : Int)) = false := by rw [hK0]; decide
                    have hd2 : decide (0 < K.length) = false := by rw [hK0]; decide
                    have HK0 := Lib.hid hK0
                    clear hK0
                    have hown3 := HOWN.out
                    have hsc := hsi
                    go_wp2_with (at_builtin; refine wpList_app rfl _ _ 32 rfl elem3 Bk _ _ _ rfl (hown3.alloc _) _ 1 1 [.int .i64 (i : Int)] rfl rfl (cell_one_new _ _ _) (one1 _ rfl) (by omega) wi ((Below.refl _ _).alloc (by omega) _) (by simp; omega) ?_)
                    intro v2 w2 hown2 hb2
                    have hs2 := hb2.size
                    have hru2 := (hb2.block ob (by omega)).trans HROW.out
                    have hq2 := (hb2.block qb (by omega)).trans HQI.out
                    have qc : w2.cell? ⟨qb, j, none⟩ = some (.int .i64 (i : Nat)) := by rw [cell_of_row _ _ _ _ _ _ hq2, row_get _ _ _ hjl, QF.out]
                    have oc : w2.cell? ⟨ob, i, none⟩ = some (.int .i64 (mid L p k K i : Nat)) := by rw [cell_of_row _ _ _ _ _ _ hru2, row_get _ _ _ hi]
                    have of' : w2.frozen? ⟨ob, i, none⟩ = false := frozen_of_row w2 ob i _ 3 hru2
                    have hmb := mid_lt L p k K i
                    have hb2w : Below w.heap.size w w2 := hbi.trans (hb2.mono' (by omega))
                    have hbk2 : ∀ b, b < Bk → b ≠ ob → w2.heap[b]? = wq.heap[b]? := fun b h1 h2 => (hb2.block b h1).trans (HKI.out b h1 h2)
                    have R2 := Lib.hid hru2
                    have Q2 := Lib.hid hq2
                    have O2 := Lib.hid hown2
                    have B2 := Lib.hid hb2w
                    have K2 := Lib.hid hbk2
                    clear hru2 hq2 hown2 hb2 hb2w hbk2 hown3
                    go_wp2_with (fail)
                    go_region
                    go_wp2_with (fail)
                    go_roundw
                    case rel =>
                      refine ⟨j + 1, by omega, by go_num, ?_, ?_, ?_, ?_, ?_⟩
                      · rw [S2.out]; have h := O2.out; simp only [List.length_append, List.length_singleton, List.map_append, List.map_cons, List.map_nil]; exact ownsRow_set h hobk _ _
                      · rw [World.size_drew, World.size_setCell]; omega
                      · rw [S2.out, mid_snoc]; exact row_store R2.out hi (MA.out)
                      · intro b h1 h2; rw [heap_drew, Below.heap_setCell _ _ _ _ (by simp only; omega)]; exact K2.out b h1 h2
                      · exact (B2.out.setCell (by simp only; omega) _).drew
                    case measure => simp [intOf]; omega
            · obtain rfl : j = L.length := by omega
              have hwe : (ord L).take L.length = ord L := List.take_of_length_le (by rw [ord_length]; omega)
              rw [hwe] at hrow
              have hrow' : wi.heap[ob]? = some (.cells (row L.length (whyM L p (k + 1))) 3 (0, 0)) := hrow
              have HROW := Lib.hid hrow'
              have HKI := Lib.hid hki
              clear hwhole hsub inv hll hown hrow hrow' hki hqi hwe
              go_wp2_with (fail)
              go_roundw
              case rel => exact ⟨k + 1, by omega, by go_num, vint (by rw [Int.pow_succ]; omega), by omega, HROW.out, fun b h1 h2 => (HKI.out b (by omega) h2).trans (HKQ.out b h1 h2), hbi⟩
              case measure => simp [intOf]; omega
        · obtain rfl : k = 6 := by omega
          have HROW := Lib.hid hrow
          clear hrow hkq
          go_wp2_with (fail)
          go_ret2
          exact ⟨⟨_, rfl, HROW.out, by omega⟩, hbq⟩

noncomputable def codeOf (p : Nat → Int) : Int := @ite Int (PolOk p) (Classical.propDecidable _) 24 23
set_option maxRecDepth 100000 in
set_option maxHeartbeats 1000000 in
theorem whyR_err (p : Nat → Int) (a : Option Addr) (cap : Nat) (L : List Sn) (w : World) (hL : L.length ≤ 1000) (h : SN w a L w.heap.size) (hbad : ¬ (PolOk p ∧ TimesOk L)) :
    Calls Try.prog 11 #[.agg (P6 p), .slice a L.length cap] w fun e w' => e = .returned (.tuple #[.slice none 0 0, .int .i64 (codeOf p)]) ∧ Below w.heap.size w w' := by
  have H := Lib.hid h
  clear h
  by_cases hp : PolOk p
  · have C := Lib.hid (show codeOf p = 24 from if_pos hp)
    obtain ⟨K, hK, hT, hbad2⟩ := times_bad L (fun h => hbad ⟨hp, h⟩)
    have HT := Lib.hid hT
    clear hT hbad
    go_enter Try.func11, Try.ntmps11
    go_wp2_with (fail)
    refine (checkR_ok p _ hp).mono ?_; rintro e w1 ⟨rfl, hb1⟩
    have hbw1 : Below w.heap.size w w1 := ((Below.refl _ _).alloc (Nat.le_refl _) _).trans (hb1.mono (by simp))
    clear hb1
    go_wp2_with (fail)
    go_loopw [7] (fun i wr => ∃ k : Nat, k ≤ K ∧ i = .int .i64 k ∧ Below w.heap.size w wr) (fun i _ => L.length - (intOf i).toNat)
    case atStart => exact ⟨0, by omega, rfl, hbw1⟩
    case round =>
      obtain ⟨k, hk, rfl, hbr⟩ := hrel
      have hsr := hbr.size
      have hlt : k < L.length := by omega
      obtain ⟨b, o, rfl, hc⟩ := times_cell (H.out.below hbr) hlt
      by_cases hKk : k < K
      · have tt := HT.out k hKk
        go_wp2_with (fail)
        refine (bucketR_any 1 (at' L k).time _ (by omega) (by omega) tt.1 tt.2).mono ?_
        rintro e w2 ⟨rfl, hb2⟩
        go_wp2_with (fail)
        go_roundw
        case rel => exact ⟨k + 1, by omega, by go_num, hbr.trans (hb2.mono hsr)⟩
        case measure => simp [intOf]; omega
      · obtain rfl : k = K := by omega
        go_wp2_with (fail)
        refine (bucketR_bad 1 (at' L k).time _ hbad2).mono ?_
        rintro e w2 ⟨rfl, rfl⟩
        go_wp2_with (fail)
        go_ret2
        exact ⟨by rw [C.out]; rfl, hbr⟩
  · have C := Lib.hid (show codeOf p = 23 from if_neg hp)
    clear hbad
    go_enter Try.func11, Try.ntmps11
    go_wp2_with (fail)
    refine (checkR_bad p _ hp).mono ?_; rintro e w1 ⟨rfl, hb1⟩
    go_wp2_with (fail)
    go_ret2
    exact ⟨by rw [C.out]; rfl, ((Below.refl _ _).alloc (Nat.le_refl _) _).trans (hb1.mono (by simp))⟩

set_option maxRecDepth 100000 in
set_option maxHeartbeats 1000000 in
theorem goneRx_ok (p : Nat → Int) (a : Option Addr) (cap : Nat) (L : List Sn) (w : World) (hp : PolOk p) (hL : L.length ≤ 1000) (h : SN w a L w.heap.size) (ht : TimesOk L) :
    Calls Try.prog 13 #[.agg (P6 p), .slice a L.length cap] w fun e w' => (∃ v, e = .returned (.tuple #[v, .int .i64 0]) ∧ w'.ownsRow w.heap.size 9 1 v (goneR L p L.length).length ((goneR L p L.length).map encStr)) ∧ Below w.heap.size w w' := by
  have H := Lib.hid h
  clear h
  go_enter Try.func13, Try.ntmps13
  go_wp2_with (fail)
  refine (whyR_ok p a cap L _ hp hL (H.out.below ((Below.refl _ _).alloc (Nat.le_refl _) _)) ht).mono ?_
  rintro e w1 ⟨⟨b, rfl, hrow, hbb⟩, hb1⟩
  have hbl := lt_of_block hrow
  have hbw : Below w.heap.size w w1 := ((Below.refl _ _).alloc (Nat.le_refl _) _).trans (hb1.mono (by simp))
  have hs1 : w.heap.size < w1.heap.size := by have := hb1.size; simp at this; omega
  clear hb1
  go_wp2_with (fail)
  go_loopw [8, 9] (fun v i wr => ∃ k : Nat, k ≤ L.length ∧ i = .int .i64 k ∧ wr.ownsRow w.heap.size 9 1 v (goneR L p k).length ((goneR L p k).map encStr) ∧ Below w1.heap.size w1 wr) (fun _ i _ => L.length - (intOf i).toNat)
  case atStart => exact ⟨0, by omega, rfl, World.ownsRow_nil _ _ _ _, Below.refl _ _⟩
  case round =>
    obtain ⟨k, hk, rfl, hown, hb⟩ := hrel
    have hsz := hb.size
    by_cases hlt : k < L.length
    · have hc : wr.cell? ⟨b, k, none⟩ = some (.int .i64 (whyM L p 6 k : Nat)) := by
        rw [hb.cell (p := ⟨b, k, none⟩) hbl, cell_of_row _ _ _ _ _ _ hrow, row_get _ _ _ hlt]
      have HR := Lib.hid hrow
      have GS := Lib.hid (goneR_succ L p k)
      have gl := goneR_len L p k
      clear hrow
      cases hkk : keepB L p k
      · have h0 : (whyM L p 6 k : Int) = 0 := by unfold keepB at hkk; simpa using hkk
        rw [hkk] at GS
        have HK := Lib.hid hkk
        have H0 : whyM L p 6 k = 0 := by omega
        rw [H0] at hc
        clear hkk h0 H0
        obtain ⟨ad, gc, rfl⟩ := ownsRow_shape hown
        obtain ⟨b2, o2, rfl, _, hr, _, _⟩ := (H.out.below (hbw.trans (hb.mono (by omega)))).addr k hlt
        have hn : wr.cell? ⟨b2, o2 + k * 36, none⟩ = some (encStr (nmL L k)) := by rw [encStr_nm]; exact hr 0 _ rfl
        have hn2 : wr.cell? ⟨b2, o2 + k * 36, none⟩ = some (.string (at' L k).name) := hr 0 _ rfl
        have EN := Lib.hid (encStr_nm L k)
        have HO := Lib.hid hown
        clear hr hn hown
        go_wp2_with (fail)
        rw [← EN.out]
        refine (with_any (nmL L k) (goneR L p k) ad gc wr (by omega) (fun j hj => ?_)).mono ?_
        · rcases HO.out with ⟨hol, ⟨e0, h0⟩ | ⟨g, gc', cur, e2, hgB, hg, hg1, hg2, hg3, hg4⟩⟩
          · omega
          · cases e2
            refine ⟨g, 0, rfl, ?_⟩
            rw [Nat.zero_add, cell_of_row _ _ _ _ _ _ hg]
            rw [Nat.mul_one] at hg4
            have h1 : (cur.toList.take (goneR L p k).length)[j]? = some (encStr (goneR L p k)[j]) := by rw [hg4, List.getElem?_map, List.getElem?_eq_getElem hj]; rfl
            rw [List.getElem?_take, if_pos hj, Array.getElem?_toList] at h1
            rw [h1]; simp [hj]
        rintro e w2 ⟨⟨v, rfl, hown2⟩, hb2⟩
        have HO2 := Lib.hid hown2
        clear hown2 hn2 hc
        go_wp2_with (fail)
        go_roundw
        case rel => exact ⟨k + 1, by omega, by go_num, by rw [GS.out]; exact ownsRow_base HO2.out (by omega), hb.trans (hb2.mono hsz)⟩
        case measure => simp [intOf]; omega
      · have h0 : ((whyM L p 6 k : Nat) : Int) ≠ 0 := by unfold keepB at hkk; simpa using hkk
        have h0' : (whyM L p 6 k == 0) = false := by rw [beq_eq_false_iff_ne]; omega
        have h0'' : (((whyM L p 6 k : Nat) : Int) == 0) = false := by rw [beq_eq_false_iff_ne]; exact h0
        rw [hkk] at GS
        have HK := Lib.hid hkk
        have HO := Lib.hid hown
        clear hkk hown h0
        go_wp2_with (fail)
        go_roundw
        case rel => exact ⟨k + 1, by omega, by go_num, by rw [GS.out]; exact HO.out, hb⟩
        case measure => simp [intOf]; omega
    · obtain rfl : k = L.length := by omega
      have HO := Lib.hid hown
      clear hown hrow
      go_wp2_with (fail)
      go_ret2
      exact ⟨⟨_, rfl, HO.out⟩, hbw.trans (hb.mono (by omega))⟩

set_option maxHeartbeats 1000000 in
theorem goneRx_err (p : Nat → Int) (a : Option Addr) (cap : Nat) (L : List Sn) (w : World) (hL : L.length ≤ 1000) (h : SN w a L w.heap.size) (hbad : ¬ (PolOk p ∧ TimesOk L)) :
    Calls Try.prog 13 #[.agg (P6 p), .slice a L.length cap] w fun e w' => e = .returned (.tuple #[.slice none 0 0, .int .i64 (codeOf p)]) ∧ Below w.heap.size w w' := by
  have H := Lib.hid h
  clear h
  have hc : (codeOf p != 0) = true := by unfold codeOf; split <;> decide
  go_enter Try.func13, Try.ntmps13
  go_wp2_with (fail)
  refine (whyR_err p a cap L _ hL (H.out.below ((Below.refl _ _).alloc (Nat.le_refl _) _)) hbad).mono ?_
  rintro e w1 ⟨rfl, hb1⟩
  go_wp2_with (fail)
  go_ret2
  exact ⟨rfl, ((Below.refl _ _).alloc (Nat.le_refl _) _).trans (hb1.mono (by simp))⟩
end Go.Proofs.Ytijkadahcggmeaa
