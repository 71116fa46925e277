/- What Why answers: the walk. -/
import Derived.Test.YtijkadahcggmeaaB4
import Derived.Deep.MidRow
import Derived.Deep.WholeRow
import Derived.Deep.OwnRows
import Derived.RegionTactic
namespace Go.Proofs.Ytijkadahcggmeaa
open Go.RowKit

theorem made_row (n : Nat) (L : List Sn) (p : Nat → Int) : madeCells #[Value.int .i64 0] n = row n (whyM L p 0) := by
  apply Array.ext_getElem?
  intro j
  by_cases h : j < n
  · rw [row_get _ _ _ h]; simp [madeCells, h, whyM, Nat.mod_one]
  · rw [Array.getElem?_eq_none (by rw [size_madeCells]; omega), Array.getElem?_eq_none (by rw [row_size]; omega)]

theorem new_row (w : World) (L : List Sn) (p : Nat → Int) : (w.alloc (.cells (madeCells #[Value.int .i64 0] L.length) 3)).heap[w.heap.size]? = some (.cells (row L.length (whyM L p 0)) 3 (0, 0)) := by
  rw [made_row L.length L p]; exact heap_alloc_new _ _

theorem only_below {B b : Nat} {w w1 w2 : World} {q : Addr} {v : Value} (h : Only b w1 w2) (hb : B ≤ b) (hq : B ≤ q.block) (hw : Below B w w1) : Below B w (w2.setCell q v).drew := by
  refine Below.drew (Below.setCell (hw.trans ⟨h.os, h.tape, h.output, by rw [h.size]; exact Nat.le_refl _, fun k hk => h.block k (by omega)⟩) hq v)

theorem info3 : (Try.prog.info? 3).map (fun i => (i.zero, i.size, i.bytes)) = some (some (.int .i64 0), 1, 8) := by kernel_rfl
theorem rangeAt_below {B : Nat} {w w' : World} {b o : Nat} {cs : List Value} (h : Below B w w') (hb : b < B) (hr : w.rangeAt b o cs) : w'.rangeAt b o cs :=
  fun j v hj => (h.cell (p := ⟨b, o + j, none⟩) hb).trans (hr j v hj)

theorem wpList_store_new {ops : Array Oper} {rest : List Oper} {op : Oper} {a : Act} {w : World} {Q : Exit → Act → World → Prop} {P : Program} (hgd : op.guard = none) (ty : TypeId) (x y : Operand) (ho : op.op = .store ty x y)
    (c c' : Array Value) (hx : a.eval x = .pointer (some ⟨w.heap.size, 0, none⟩)) (hy : a.eval y = .agg c')
    (hs : c.size = c'.size) (hi : (P.info? ty).map (·.size) = some c'.size) (h1 : c'.all (·.oneCell') = true)
    (h : wpList P ops Q rest (a.put op.dst undef) (w.alloc (.cells c' ty))) : wpList P ops Q (op :: rest) a (w.alloc (.cells c ty)) :=
  wpList_plain hgd fun _ hK => by
    unfold Oper.wp execOp
    simp only [ho, hx, hy]
    have := run_storeAt_new (P := P) w ty c c' hi hs h1
    simp only [Sem.run_bind, this, Result.andThen_ok, Sem.run_pure]
    exact hK _ _ h

set_option maxRecDepth 100000 in
set_option maxHeartbeats 1000000 in
theorem why_ok (p : Nat → Int) (a : Option Addr) (cap : Nat) (L : List Sn) (w : World) (hp : PolOk p) (hL : L.length ≤ 1000) (h : SN w a L w.heap.size) (ht : TimesOk L) :
    Calls Try.prog 10 #[.agg (P6 p), .slice a L.length cap] w fun e w' => (∃ b, e = .returned (.tuple #[.slice (some ⟨b, 0, none⟩) L.length L.length, .nilIface]) ∧
      w'.heap[b]? = some (.cells (row L.length (whyM L p 6)) 3 (0, 0)) ∧ w.heap.size ≤ b) ∧ Below w.heap.size w w' := by
  have H := Lib.hid h
  have HT := Lib.hid ht
  clear h ht
  go_enter Try.func10, Try.ntmps10
  go_wp2_with (fail)
  refine (check_ok p _ hp).mono ?_; rintro e w1 ⟨rfl, hb1⟩
  go_wp2_with (fail)
  go_loopw [25] (fun i wr => ∃ k : Nat, k ≤ L.length ∧ i = .int .i64 k ∧ Below w.heap.size w wr ∧ w.heap.size < wr.heap.size ∧ wr.heap[w.heap.size]? = some (.cells (P6 p) 23 (0, 0))) (fun i _ => L.length - (intOf i).toNat)
  case atStart => exact ⟨0, by omega, rfl, (((Below.refl _ _).alloc (Nat.le_refl _) _).trans (hb1.mono (by simp))), by have := hb1.size; simp at this; omega, (hb1.block _ (by simp)).trans (heap_alloc_new _ _)⟩
  case round =>
    obtain ⟨k, hk, rfl, hbr, hsw, hpol⟩ := hrel
    by_cases hlt : k < L.length
    · obtain ⟨b, o, rfl, hbB, hr, hlen, hone⟩ := H.out.addr k hlt
      have hrr := rangeAt_below hbr hbB hr
      have hsz : (Try.prog.info? 30).map (·.size) = some ((at' L k).cells).length := by rw [hlen]; kernel_rfl
      have hsz2 : (Try.prog.info? 30).map (·.size) = some ((at' L k).cells).toArray.size := by rw [List.size_toArray, hlen]; kernel_rfl
      have ho := all_oneCell_toArray hone
      have hc1 : ((at' L k).cells)[1]? = some (.int .i64 (at' L k).time) := rfl
      have hs36 : ((at' L k).cells).toArray.size = 36 := by rw [List.size_toArray, hlen]
      have HH := Lib.hid hlen
      clear hr hlen hone
      go_wp2_with (first | (refine wpList_load_mid rfl 30 _ rfl b (o + k * 36) rfl _ _ hrr Try.underlying30 rfl hsz ?_) | (refine wpList_store_new rfl 30 _ _ rfl _ _ rfl rfl hs36.symm hsz2 ho ?_))
      have tt := HT.out k hlt
      refine (bucket_any 1 (at' L k).time _ (by omega) (by omega) tt.1 tt.2).mono ?_
      rintro e w2 ⟨rfl, hb2⟩
      go_wp2_with (fail)
      go_roundw
      case rel => exact ⟨k + 1, by omega, by go_num, (hbr.alloc hbr.size _).trans (hb2.mono (by simp; omega)), by have := hb2.size; simp at this; omega, (hb2.block _ (by simp; omega)).trans ((Below.heap_alloc _ _ _ hsw).trans hpol)⟩
      case measure => simp [intOf]; omega
    · obtain rfl : k = L.length := by omega
      obtain ⟨wo, rfl⟩ : ∃ wo : World, wo = wr := ⟨_, rfl⟩
      have hmk := run_make_row' (P := Try.prog) 32 3 (.int .i64 0) 8 Try.underlying32 info3 rfl .i64 .i64 L.length (by omega) (by omega)
      have hpol2 : ∀ o, (wo.alloc o).heap[w.heap.size]? = some (.cells (P6 p) 23 (0, 0)) := fun o => (Below.heap_alloc _ _ _ hsw).trans hpol
      go_wp2_with (first | (refine wpList_load_row rfl 23 _ rfl w.heap.size rfl 23 (P6 p) (0, 0) _ (hpol2 _) Try.underlying23 rfl (by kernel_rfl) ?_))
      refine (numbers_any p _).mono ?_; rintro e w3 ⟨rfl, hb3⟩
      have hout : w3.heap[wo.heap.size]? = some (.cells (row L.length (whyM L p 0)) 3 (0, 0)) := (hb3.block _ (by simp)).trans (new_row _ _ _)
      have hbw : Below w.heap.size w w3 := (hbr.alloc hbr.size _).trans (hb3.mono (by simp; omega))
      have hs3 : wo.heap.size < w3.heap.size := by have := hb3.size; simp at this; omega
      clear hb3 hpol2 hpol
      go_wp2_with (fail)
      go_loopw [44] (fun i wq => ∃ k : Nat, k ≤ 6 ∧ i = .int .i64 k ∧ Below w.heap.size w wq ∧ wo.heap.size < wq.heap.size ∧ wq.heap[wo.heap.size]? = some (.cells (row L.length (whyM L p k)) 3 (0, 0))) (fun i _ => 6 - (intOf i).toNat)
      case atStart => exact ⟨0, by omega, rfl, hbw, hs3, hout⟩
      case round =>
        obtain ⟨k, hk6, rfl, hbq, hsq, hrow⟩ := hrel
        by_cases hlt : k < 6
        · have hidx := idx6 p k hlt
          by_cases hk0 : k = 0
          · subst hk0
            clear hidx
            have hidx : ∀ w, (Instr.index 62 (.agg (P6 p)) (.int .i64 0)).run Try.prog w = .ok (.int .i64 (p 0)) w := idx6 p 0 (by omega)
            go_wp2_with (fail)
            refine (newest_any a cap L _ hL (H.out.below ((hbq.alloc hbq.size _)))).mono ?_
            rintro e wn ⟨⟨a', cap', rfl, hcells⟩, hbn⟩
            obtain ⟨wq, rfl⟩ : ∃ wq : World, wq = wr := ⟨_, rfl⟩
            have hsn := hbn.size
            rw [World.size_alloc] at hsn
            have hrule : wn.heap[wq.heap.size]? = some (ruleRow (p 0) false 0) := (hbn.block _ (by simp)).trans (heap_alloc_new _ _)
            have hrow2 : wn.heap[wo.heap.size]? = some (.cells (row L.length (mid L p 0 [])) 3 (0, 0)) := by
              rw [mid_nil]; exact (hbn.block _ (by simp; omega)).trans ((Below.heap_alloc _ _ _ hsq).trans hrow)
            have hbwn : Below w.heap.size w wn := (hbq.alloc hbq.size _).trans (hbn.mono (by have := hbq.size; simp; omega))
            have hpk := hp.1 0 (by omega)
            have HC := Lib.hid hcells
            clear hrow hbq hbn hcells
            go_wp2_with (fail)
            go_loopw [54] (fun j wi => ∃ j' : Nat, j' ≤ L.length ∧ j = .int .i64 j' ∧ Below w.heap.size w wi ∧ wn.heap.size ≤ wi.heap.size ∧
              wi.heap[wq.heap.size]? = some (ruleRow (rrun (bk L 0) (p 0) ((ord L).take j')).left (rrun (bk L 0) (p 0) ((ord L).take j')).any (rrun (bk L 0) (p 0) ((ord L).take j')).last) ∧
              wi.heap[wo.heap.size]? = some (.cells (row L.length (mid L p 0 (rrun (bk L 0) (p 0) ((ord L).take j')).kept)) 3 (0, 0)) ∧
              (∀ b, b < wn.heap.size → b ≠ wq.heap.size → b ≠ wo.heap.size → wi.heap[b]? = wn.heap[b]?)) (fun j _ => L.length - (intOf j).toNat)
            case atStart => exact ⟨0, by omega, rfl, hbwn, Nat.le_refl _, hrule, hrow2, fun _ _ _ _ => rfl⟩
            case round =>
              obtain ⟨j, hj, rfl, hbi, hsi, hru, hro, hke⟩ := hrel
              obtain ⟨wi, rfl⟩ : ∃ wi : World, wi = wr := ⟨_, rfl⟩
              by_cases hjl : j < L.length
              · have hjo : j < (ord L).length := by rw [ord_length]; exact hjl
                obtain ⟨ob, oo, rfl, hob, hcell⟩ := HC.out j hjo
                rw [World.size_alloc] at hob
                have hi := ord_lt L j hjo
                have hst := rrun_take (bk L 0) (p 0) (ord L) j hjo
                generalize (ord L)[j] = i at hcell hi hst
                have hobn : ob < wn.heap.size := block_lt_of_cell hcell
                have hcell2 : wi.cell? ⟨ob, oo + j, none⟩ = some (.int .i64 (i : Int)) := (World.cell?_of_block (hke ob hobn (by omega) (by omega))).trans hcell
                have hleft := rrun_left (bk L 0) (p 0) hpk.1 ((ord L).take j)
                obtain ⟨sb, so, rfl, hbB, hr, hlen, hone⟩ := H.out.addr i hi
                have htc : wi.cell? ⟨sb, so + i * 36 + 1, none⟩ = some (.int .i64 (at' L i).time) := (hbi.cell (p := ⟨sb, so + i * 36 + 1, none⟩) hbB).trans (hr 1 _ rfl)
                have tt := HT.out i hi
                generalize hSS : rrun (bk L 0) (p 0) ((ord L).take j) = S at hst hleft hru hro
                obtain ⟨left, any, last, kept⟩ := S
                simp only at hleft hru hro
                have HST := Lib.hid (show rrun (bk L 0) (p 0) ((ord L).take (j + 1)) = if left = 0 ∨ (any = true ∧ last = bk L 0 i) then ⟨left, any, last, kept⟩ else ⟨left - 1, true, bk L 0 i, kept ++ [i]⟩ from hst)
                have HKE := Lib.hid hke
                clear hst hcell hr hlen hone hSS hke
                · have ebk : bk L 0 i = (i : Int) := rfl
                  rw [ebk] at HST
                  have hrub := hru
                  have hrob := hro
                  clear hru hro ebk
                  go_wp2_with (fail)
                  by_cases hno : left = 0 ∨ (any = true ∧ last = (i : Int))
                  · have hst2 : rrun (bk L 0) (p 0) ((ord L).take (j + 1)) = ⟨left, any, last, kept⟩ := by rw [HST.out]; exact if_pos hno
                    have HS2 := Lib.hid hst2
                    clear hst2
                    refine (keeps_no _ left last (i : Int) any _ hrub hno).mono ?_
                    rintro e w5 ⟨rfl, rfl⟩
                    clear hno
                    go_wp2_with (fail)
                    go_roundw
                    case rel => exact ⟨j + 1, by omega, by go_num, hbi, hsi, by rw [HS2.out]; exact hrub, by rw [HS2.out]; exact hrob, HKE.out⟩
                    case measure => simp [intOf]; omega
                  · have hst2 : rrun (bk L 0) (p 0) ((ord L).take (j + 1)) = ⟨left - 1, true, (i : Int), kept ++ [i]⟩ := by rw [HST.out]; exact if_neg hno
                    have HS2 := Lib.hid hst2
                    clear hst2
                    have hl0 : left ≠ 0 := fun h => hno (Or.inl h)
                    refine (keeps_yes _ left last (i : Int) any _ hrub (by omega) (by omega) (fun h => hno (Or.inr h))).mono ?_
                    rintro e w5 ⟨rfl, hru5, hO⟩
                    have hro5 := (hO.block wo.heap.size (by omega)).trans hrob
                    have hoc : w5.cell? ⟨wo.heap.size, i, none⟩ = some (.int .i64 (mid L p 0 kept i : Nat)) := by rw [cell_of_row _ _ _ _ _ _ hro5, row_get _ _ _ hi]
                    have hof := frozen_of_row w5 wo.heap.size i _ 3 hro5
                    have hmb := mid_lt L p 0 kept i
                    have HR := Lib.hid hru5
                    have HO := Lib.hid hro5
                    have HOO := Lib.hid hO
                    clear hno hru5 hro5 hl0 hrub hrob hO
                    go_wp2_with (fail)
                    go_region
                    go_wp2_with (fail)
                    go_roundw
                    case rel => exact ⟨j + 1, by omega, by go_num, (only_below HOO.out (by have := hbi.size; have := hbr.size; omega) (by have := hbr.size; simp only; omega) hbi), (by rw [World.size_drew, World.size_setCell, HOO.out.size]; exact hsi), by rw [HS2.out, heap_drew, Below.heap_setCell _ _ _ _ (by simp only; omega)]; exact HR.out, by rw [HS2.out, mid_snoc]; exact row_store HO.out hi (mid_or0 L p kept i), fun b hb h1 h2 => (by rw [heap_drew, Below.heap_setCell _ _ _ _ (by simp only; omega)]; exact (HOO.out.block b h1).trans (HKE.out b hb h1 h2))⟩
                    case measure => simp [intOf]; omega
              · obtain rfl : j = L.length := by omega
                have hwe : (ord L).take L.length = ord L := List.take_of_length_le (by rw [ord_length]; omega)
                rw [hwe] at hro
                clear hwe hru
                have HRO := Lib.hid hro
                clear hro
                go_wp2_with (fail)
                go_roundw
                case rel => exact ⟨0 + 1, by decide, by simp, hbi, by omega, HRO.out⟩
                case measure => simp [intOf]
          · have hkp : 0 < k := by omega
            go_wp2_with (fail)
            refine (newest_any a cap L _ hL (H.out.below ((hbq.alloc hbq.size _)))).mono ?_
            rintro e wn ⟨⟨a', cap', rfl, hcells⟩, hbn⟩
            obtain ⟨wq, rfl⟩ : ∃ wq : World, wq = wr := ⟨_, rfl⟩
            have hsn := hbn.size
            rw [World.size_alloc] at hsn
            have hrule : wn.heap[wq.heap.size]? = some (ruleRow (p k) false 0) := (hbn.block _ (by simp)).trans (heap_alloc_new _ _)
            have hrow2 : wn.heap[wo.heap.size]? = some (.cells (row L.length (mid L p k [])) 3 (0, 0)) := by
              rw [mid_nil]; exact (hbn.block _ (by simp; omega)).trans ((Below.heap_alloc _ _ _ hsq).trans hrow)
            have hbwn : Below w.heap.size w wn := (hbq.alloc hbq.size _).trans (hbn.mono (by have := hbq.size; simp; omega))
            have hpk := hp.1 k (by omega)
            have HC := Lib.hid hcells
            clear hrow hbq hbn hcells
            go_wp2_with (fail)
            go_loopw [54] (fun j wi => ∃ j' : Nat, j' ≤ L.length ∧ j = .int .i64 j' ∧ Below w.heap.size w wi ∧ wn.heap.size ≤ wi.heap.size ∧
              wi.heap[wq.heap.size]? = some (ruleRow (rrun (bk L k) (p k) ((ord L).take j')).left (rrun (bk L k) (p k) ((ord L).take j')).any (rrun (bk L k) (p k) ((ord L).take j')).last) ∧
              wi.heap[wo.heap.size]? = some (.cells (row L.length (mid L p k (rrun (bk L k) (p k) ((ord L).take j')).kept)) 3 (0, 0)) ∧
              (∀ b, b < wn.heap.size → b ≠ wq.heap.size → b ≠ wo.heap.size → wi.heap[b]? = wn.heap[b]?)) (fun j _ => L.length - (intOf j).toNat)
            case atStart => exact ⟨0, by omega, rfl, hbwn, Nat.le_refl _, hrule, hrow2, fun _ _ _ _ => rfl⟩
            case round =>
              obtain ⟨j, hj, rfl, hbi, hsi, hru, hro, hke⟩ := hrel
              obtain ⟨wi, rfl⟩ : ∃ wi : World, wi = wr := ⟨_, rfl⟩
              by_cases hjl : j < L.length
              · have hjo : j < (ord L).length := by rw [ord_length]; exact hjl
                obtain ⟨ob, oo, rfl, hob, hcell⟩ := HC.out j hjo
                rw [World.size_alloc] at hob
                have hi := ord_lt L j hjo
                have hst := rrun_take (bk L k) (p k) (ord L) j hjo
                generalize (ord L)[j] = i at hcell hi hst
                have hobn : ob < wn.heap.size := block_lt_of_cell hcell
                have hcell2 : wi.cell? ⟨ob, oo + j, none⟩ = some (.int .i64 (i : Int)) := (World.cell?_of_block (hke ob hobn (by omega) (by omega))).trans hcell
                have hleft := rrun_left (bk L k) (p k) hpk.1 ((ord L).take j)
                obtain ⟨sb, so, rfl, hbB, hr, hlen, hone⟩ := H.out.addr i hi
                have htc : wi.cell? ⟨sb, so + i * 36 + 1, none⟩ = some (.int .i64 (at' L i).time) := (hbi.cell (p := ⟨sb, so + i * 36 + 1, none⟩) hbB).trans (hr 1 _ rfl)
                have tt := HT.out i hi
                generalize hSS : rrun (bk L k) (p k) ((ord L).take j) = S at hst hleft hru hro
                obtain ⟨left, any, last, kept⟩ := S
                simp only at hleft hru hro
                have HST := Lib.hid (show rrun (bk L k) (p k) ((ord L).take (j + 1)) = if left = 0 ∨ (any = true ∧ last = bk L k i) then ⟨left, any, last, kept⟩ else ⟨left - 1, true, bk L k i, kept ++ [i]⟩ from hst)
                have HKE := Lib.hid hke
                clear hst hcell hr hlen hone hSS hke
                · have ebk : bk L k i = Cal.bkt k (at' L i).time := by unfold bk; rw [if_neg hk0]
                  rw [ebk] at HST
                  clear ebk
                  go_wp2_with (fail)
                  refine (bucket_any (k : Int) (at' L i).time _ (by omega) (by omega) tt.1 tt.2).mono ?_
                  rintro e wb ⟨rfl, hbb⟩
                  have hrub := (hbb.block _ (lt_of_block hru)).trans hru
                  have hrob := (hbb.block _ (lt_of_block hro)).trans hro
                  have hbbs := hbb.size
                  have HBB := Lib.hid hbb
                  clear hbb hru hro
                  generalize Cal.bkt (k : Int) (at' L i).time = bb at HST ⊢
                  go_wp2_with (fail)
                  by_cases hno : left = 0 ∨ (any = true ∧ last = bb)
                  · have hst2 : rrun (bk L k) (p k) ((ord L).take (j + 1)) = ⟨left, any, last, kept⟩ := by rw [HST.out]; exact if_pos hno
                    have HS2 := Lib.hid hst2
                    clear hst2
                    refine (keeps_no _ left last bb any _ hrub hno).mono ?_
                    rintro e w5 ⟨rfl, rfl⟩
                    clear hno
                    go_wp2_with (fail)
                    go_roundw
                    case rel => exact ⟨j + 1, by omega, by go_num, hbi.trans (HBB.out.mono (by have := hbi.size; omega)), by omega, by rw [HS2.out]; exact hrub, by rw [HS2.out]; exact hrob, fun b hb h1 h2 => (HBB.out.block b (by omega)).trans (HKE.out b hb h1 h2)⟩
                    case measure => simp [intOf]; omega
                  · have hst2 : rrun (bk L k) (p k) ((ord L).take (j + 1)) = ⟨left - 1, true, bb, kept ++ [i]⟩ := by rw [HST.out]; exact if_neg hno
                    have HS2 := Lib.hid hst2
                    clear hst2
                    have hl0 : left ≠ 0 := fun h => hno (Or.inl h)
                    refine (keeps_yes _ left last bb any _ hrub (by omega) (by omega) (fun h => hno (Or.inr h))).mono ?_
                    rintro e w5 ⟨rfl, hru5, hO⟩
                    have hro5 := (hO.block wo.heap.size (by omega)).trans hrob
                    have hoc : w5.cell? ⟨wo.heap.size, i, none⟩ = some (.int .i64 (mid L p k kept i : Nat)) := by rw [cell_of_row _ _ _ _ _ _ hro5, row_get _ _ _ hi]
                    have hof := frozen_of_row w5 wo.heap.size i _ 3 hro5
                    have hmb := mid_lt L p k kept i
                    have HR := Lib.hid hru5
                    have HO := Lib.hid hro5
                    have HOO := Lib.hid hO
                    clear hno hru5 hro5 hl0 hrub hrob hO
                    go_wp2_with (fail)
                    go_region
                    go_wp2_with (fail)
                    go_roundw
                    case rel => exact ⟨j + 1, by omega, by go_num, (only_below HOO.out (by have := hbi.size; have := hbr.size; omega) (by have := hbr.size; simp only; omega) (hbi.trans (HBB.out.mono (by have := hbi.size; omega)))), (by rw [World.size_drew, World.size_setCell, HOO.out.size]; omega), by rw [HS2.out, heap_drew, Below.heap_setCell _ _ _ _ (by simp only; omega)]; exact HR.out, by rw [HS2.out, mid_snoc]; exact row_store HO.out hi (mid_or L p k kept i hlt), fun b hb h1 h2 => (by rw [heap_drew, Below.heap_setCell _ _ _ _ (by simp only; omega)]; exact (HOO.out.block b h1).trans ((HBB.out.block b (by omega)).trans (HKE.out b hb h1 h2)))⟩
                    case measure => simp [intOf]; omega
              · obtain rfl : j = L.length := by omega
                have hwe : (ord L).take L.length = ord L := List.take_of_length_le (by rw [ord_length]; omega)
                rw [hwe] at hro
                clear hwe hru
                have HRO := Lib.hid hro
                clear hro
                go_wp2_with (fail)
                go_roundw
                case rel => exact ⟨k + 1, by omega, (by first | rfl | go_num), hbi, by omega, HRO.out⟩
                case measure => simp [intOf]; omega
        · obtain rfl : k = 6 := by omega
          go_wp2_with (fail)
          go_ret2
          exact ⟨⟨_, rfl, hrow, hbr.size⟩, hbq⟩

theorem times_bad (L : List Sn) (h : ¬ TimesOk L) : ∃ K, K < L.length ∧ (∀ i, i < K → -1099511627776 ≤ (at' L i).time ∧ (at' L i).time ≤ 1099511627776) ∧ ((at' L K).time < -1099511627776 ∨ 1099511627776 < (at' L K).time) := by
  have key : ∀ n, n ≤ L.length → (∀ i, i < n → -1099511627776 ≤ (at' L i).time ∧ (at' L i).time ≤ 1099511627776) ∨ ∃ K, K < L.length ∧ (∀ i, i < K → -1099511627776 ≤ (at' L i).time ∧ (at' L i).time ≤ 1099511627776) ∧ ((at' L K).time < -1099511627776 ∨ 1099511627776 < (at' L K).time) := by
    intro n
    induction n with
    | zero => intro _; exact .inl (fun k hk => by omega)
    | succ n ih =>
      intro hn
      rcases ih (by omega) with a | a
      · by_cases b : -1099511627776 ≤ (at' L n).time ∧ (at' L n).time ≤ 1099511627776
        · refine .inl (fun k hk => ?_)
          by_cases e : k = n
          · subst e; exact b
          · exact a k (by omega)
        · exact .inr ⟨n, by omega, a, by omega⟩
      · exact .inr a
  rcases key L.length (Nat.le_refl _) with a | a
  · exact absurd a h
  · exact a

/-- Another error than nil. -/
def IsErr (e : Ending) (v : Value) : Prop := ∃ c : Int, c ≠ 0 ∧ e = .returned (.tuple #[v, .iface 59 (.int .i64 c)])

set_option maxRecDepth 100000 in
set_option maxHeartbeats 1000000 in
theorem why_err (p : Nat → Int) (a : Option Addr) (cap : Nat) (L : List Sn) (w : World) (hL : L.length ≤ 1000) (h : SN w a L w.heap.size) (hbad : ¬ (PolOk p ∧ TimesOk L)) :
    Calls Try.prog 10 #[.agg (P6 p), .slice a L.length cap] w fun e w' => IsErr e (.slice none 0 0) ∧ Below w.heap.size w w' := by
  have H := Lib.hid h
  clear h
  by_cases hp : PolOk p
  · obtain ⟨K, hK, hT, hbad2⟩ := times_bad L (fun h => hbad ⟨hp, h⟩)
    have HT := Lib.hid hT
    clear hT hbad
    go_enter Try.func10, Try.ntmps10
    go_wp2_with (fail)
    refine (check_ok p _ hp).mono ?_; rintro e w1 ⟨rfl, hb1⟩
    go_wp2_with (fail)
    go_loopw [25] (fun i wr => ∃ k : Nat, k ≤ K ∧ i = .int .i64 k ∧ Below w.heap.size w wr) (fun i _ => L.length - (intOf i).toNat)
    case atStart => exact ⟨0, by omega, rfl, (((Below.refl _ _).alloc (Nat.le_refl _) _).trans (hb1.mono (by simp)))⟩
    case round =>
      obtain ⟨k, hk, rfl, hbr⟩ := hrel
      have hlt : k < L.length := by omega
      obtain ⟨b, o, rfl, hbB, hr, hlen, hone⟩ := H.out.addr k hlt
      have hrr := rangeAt_below hbr hbB hr
      have hsz : (Try.prog.info? 30).map (·.size) = some ((at' L k).cells).length := by rw [hlen]; kernel_rfl
      have hsz2 : (Try.prog.info? 30).map (·.size) = some ((at' L k).cells).toArray.size := by rw [List.size_toArray, hlen]; kernel_rfl
      have ho := all_oneCell_toArray hone
      have hc1 : ((at' L k).cells)[1]? = some (.int .i64 (at' L k).time) := rfl
      have hs36 : ((at' L k).cells).toArray.size = 36 := by rw [List.size_toArray, hlen]
      have HH := Lib.hid hlen
      clear hr hlen hone
      go_wp2_with (first | (refine wpList_load_mid rfl 30 _ rfl b (o + k * 36) rfl _ _ hrr Try.underlying30 rfl hsz ?_) | (refine wpList_store_new rfl 30 _ _ rfl _ _ rfl rfl hs36.symm hsz2 ho ?_))
      by_cases hKk : k < K
      · have tt := HT.out k hKk
        refine (bucket_any 1 (at' L k).time _ (by omega) (by omega) tt.1 tt.2).mono ?_
        rintro e w2 ⟨rfl, hb2⟩
        go_wp2_with (fail)
        go_roundw
        case rel => exact ⟨k + 1, by omega, by go_num, (hbr.alloc hbr.size _).trans (hb2.mono (by have := hbr.size; simp; omega))⟩
        case measure => simp [intOf]; omega
      · obtain rfl : k = K := by omega
        refine (bucket_bad 1 (at' L k).time _ hbad2).mono ?_
        rintro e w2 ⟨rfl, rfl⟩
        go_wp2_with (fail)
        go_ret2
        exact ⟨⟨24, by decide, rfl⟩, hbr.alloc hbr.size _⟩
  · go_enter Try.func10, Try.ntmps10
    go_wp2_with (fail)
    refine (check_bad p _ hp).mono ?_; rintro e w1 ⟨rfl, hb1⟩
    go_wp2_with (fail)
    go_ret2
    exact ⟨⟨23, by decide, rfl⟩, (((Below.refl _ _).alloc (Nat.le_refl _) _).trans (hb1.mono (by simp)))⟩
end Go.Proofs.Ytijkadahcggmeaa
