/- What Gone answers where nothing is refused. -/
import Derived.Test.YtijkadahcggmeaaB5
namespace Go.Proofs.Ytijkadahcggmeaa
open Go.RowKit Go.Sort Go.Shelf Go.Lib

set_option maxRecDepth 100000 in
set_option maxHeartbeats 2000000 in
theorem gone_ok (p : Nat → Int) (a : Option Addr) (cap : Nat) (L : List Sn) (w : World) (hp : PolOk p) (hL : L.length ≤ 1000) (h : SN w a L w.heap.size) (ht : TimesOk L) :
    Calls Try.prog 12 #[.agg (P6 p), .slice a L.length cap] w fun e w' => (∃ v, e = .returned (.tuple #[v, .nilIface]) ∧ Strs w' v (goneS L p)) ∧ Below w.heap.size w w' := by
  obtain ⟨i0, hi0, hz0, hz1, hz2⟩ := info_parts info9
  have H := Lib.hid h
  clear h
  go_enter Try.func12, Try.ntmps12
  go_wp2_with (fail)
  refine (keep_ok p a cap L _ hp hL (H.out.below ((Below.refl _ _).alloc (Nat.le_refl _) _)) ht).mono ?_
  rintro e w1 ⟨⟨kv, rfl, hkeep⟩, hb1⟩
  have hs1 := hb1.size
  rw [World.size_alloc] at hs1
  have hbw : Below w.heap.size w w1 := ((Below.refl _ _).alloc (Nat.le_refl _) _).trans (hb1.mono (by simp))
  clear hb1
  have HK := Lib.hid hkeep
  clear hkeep
  go_wp2_with (fail)
  go_loopw [8, 22] (fun v i wr => ∃ k : Nat, k ≤ L.length ∧ i = .int .i64 k ∧ wr.ownsRow w1.heap.size 9 1 v (goneN L p k).length (goneV L p k) ∧ Below w1.heap.size w1 wr) (fun _ i _ => L.length - (intOf i).toNat)
  case atStart => exact ⟨0, by omega, rfl, World.ownsRow_nil _ _ _ _, Below.refl _ _⟩
  case round =>
    obtain ⟨k, hk, rfl, hown, hb⟩ := hrel
    by_cases hlt : k < L.length
    · have hsz := hb.size
      obtain ⟨b, o, rfl, hbB, hr, hlen, hone⟩ := H.out.addr k hlt
      have hbr := hbw.trans (hb.mono (by omega))
      have hrr := rangeAt_below hbr hbB hr
      have hisz : (Try.prog.info? 30).map (·.size) = some ((at' L k).cells).length := by rw [hlen]; kernel_rfl
      have hsz2 : (Try.prog.info? 30).map (·.size) = some ((at' L k).cells).toArray.size := by rw [List.size_toArray, hlen]; kernel_rfl
      have ho := all_oneCell_toArray hone
      have hs36 : ((at' L k).cells).toArray.size = 36 := by rw [List.size_toArray, hlen]
      have HH := Lib.hid hlen
      simp only [Sn.cells] at hrr hisz hsz2 ho hs36
      clear hr hlen hone
      -- the answer of Keep
      rcases HK.out with ⟨_, ⟨_, h1⟩ | ⟨kb, kc, kcur, rfl, hkb, hkcur, hkc1, hkc2, hkc3, hkc4⟩⟩
      · omega
      · have hkl := lt_of_block hkcur
        have hkcell : ∀ ob, (wr.alloc ob).cell? ⟨kb, k, none⟩ = some (.bool (keepB L p k)) := by
          intro ob
          rw [World.cell?_alloc_past _ _ _ (show kb < wr.heap.size by omega), hb.cell (p := ⟨kb, k, none⟩) hkl, cell_of_row _ _ _ _ _ _ hkcur]
          rw [Nat.mul_one] at hkc4
          have h1 : (kcur.toList.take L.length)[k]? = some (.bool (keepB L p k)) := by rw [hkc4]; simp [keepV, hlt]
          rwa [List.getElem?_take, if_pos hlt, Array.getElem?_toList] at h1
        have HKC := Lib.hid hkcur
        have HKD := Lib.hid hkc4
        clear hkcur hkc4 hkc3
        have hgs := goneN_succ L p k
        cases hkk : keepB L p k
        · simp only [hkk] at hkcell; rw [hkk] at hgs
          simp only [Bool.false_eq_true, if_false] at hgs
          have HGS := Lib.hid hgs
          have HKK := Lib.hid hkk
          clear hgs hkk
          have hgl := goneN_len L p k
          go_wp2_with (first | (refine wpList_load_mid rfl 30 _ rfl b (o + k * 36) rfl _ _ hrr Try.underlying30 rfl hisz ?_) | (refine wpList_store_new rfl 30 _ _ rfl _ _ rfl rfl hs36.symm hsz2 ho ?_) | (at_builtin; refine wpList_append_own _ rfl _ _ 39 rfl w1.heap.size 9 i0 (.string ⟨#[]⟩) 1 16 Try.underlying39 hi0 hz0 hz1 hz2 rfl (by decide) _ _ _ rfl ((hown.alloc _).alloc _) ⟨wr.heap.size + 1, 0, none⟩ 1 1 [.string (at' L k).name] rfl rfl ?c1 ?c2 ?c3 ?c4 ?c5 ?_))
          case c1 => have h := cell_one_new (wr.alloc (.cells (.string (at' L k).name :: .int .i64 (at' L k).time :: (at' L k).rest).toArray 30)) (.string (at' L k).name) 9; rw [World.size_alloc] at h; exact h
          case c2 => intro u hu; simp at hu; subst hu; rfl
          case c3 => unfold maxLen; omega
          case c4 => omega
          case c5 => simp; omega
          intro v' w2 hown1 hgrow _
          have hown2 : w2.ownsRow w1.heap.size 9 1 v' (goneN L p (k + 1)).length (goneV L p (k + 1)) := by
            have e : goneV L p (k + 1) = goneV L p k ++ [.string (at' L k).name] := by unfold goneV; rw [HGS.out]; simp
            have e2 : (goneN L p (k + 1)).length = (goneN L p k).length + 1 := by rw [HGS.out]; simp
            rw [e, e2]; exact hown1
          have hb2 : Below w1.heap.size w1 w2 := ((hb.alloc (by omega) _).alloc (by simp; omega) _).grown hgrow (by simp; omega) (fun q hq => (hown.lt q hq).1)
          clear hown1 hgrow hown hb
          go_wp2_with (fail)
          go_roundw
          case rel => exact ⟨k + 1, by omega, by go_num, hown2, hb2⟩
          case measure => simp [intOf]; omega
        · simp only [hkk] at hkcell; rw [hkk] at hgs
          simp only [if_true, List.append_nil] at hgs
          have HGS := Lib.hid hgs
          have HKK := Lib.hid hkk
          clear hgs hkk
          have HO := Lib.hid hown
          clear hown
          go_wp2_with (first | (refine wpList_load_mid rfl 30 _ rfl b (o + k * 36) rfl _ _ hrr Try.underlying30 rfl hisz ?_) | (refine wpList_store_new rfl 30 _ _ rfl _ _ rfl rfl hs36.symm hsz2 ho ?_))
          go_roundw
          case rel => exact ⟨k + 1, by omega, by go_num, by unfold goneV; rw [HGS.out]; exact HO.out.alloc _, hb.alloc (by omega) _⟩
          case measure => simp [intOf]; omega
    · obtain rfl : k = L.length := by omega
      obtain ⟨wo, rfl⟩ : ∃ wo : World, wo = wr := ⟨_, rfl⟩
      have hsz := hb.size
      have hg := goneN_len L p L.length
      have hlm : ((goneN L p L.length).map (nmL L)).length = (goneN L p L.length).length := by simp
      have hown2 : wo.ownsRow w1.heap.size 9 1 u8 ((goneN L p L.length).map (nmL L)).length (((goneN L p L.length).map (nmL L)).map encStr) := by
        rw [hlm]
        have e : ((goneN L p L.length).map (nmL L)).map encStr = goneV L p L.length := by
          unfold goneV; rw [List.map_map]; exact List.map_congr_left fun i _ => encStr_nm L i
        rw [e]; exact hown
      clear hown
      go_wp2_with (fail)
      refine (sortS_any _ w1.heap.size _ wo (by omega) hsz hown2).mono ?_
      rintro e w' ⟨rfl, hstr, hb'⟩
      have HS := Lib.hid hstr
      have HB := Lib.hid (hbw.trans ((hb.trans hb').mono (by omega)))
      clear hstr hb' hb hown2
      go_wp2_with (fail)
      go_ret2
      exact ⟨⟨_, rfl, HS.out⟩, HB.out⟩
end Go.Proofs.Ytijkadahcggmeaa
