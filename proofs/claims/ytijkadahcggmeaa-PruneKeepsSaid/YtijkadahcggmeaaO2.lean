/- How the lists of snapshots read, with the kinds of all cells. -/
import Derived.Test.YtijkadahcggmeaaO1
import Derived.Test.YtijkadahcggmeaaR8
namespace Go.Proofs.Ytijkadahcggmeaa
open Go.ChangeShapes Go.WideShapes Go.ChangeAt Go.RowKit Go.Deep
section
variable {H : Type} {enc : TypeId × Value → H} {w : World} {base : Nat} {spare : Nat → Bool} {held : Bool}

set_option maxRecDepth 100000 in
theorem open_snap2 {fuel : Nat} {l : List Value} {x : DataW H × List MemPlace} (h : DataW.trod enc Try.prog w base spare held fuel 30 l = some x) :
    ∃ s : Sn, l = s.cells ∧ l.length = 36 ∧ (∀ v ∈ l, v.oneCell' = true) ∧ SnGood s := by
  obtain ⟨xs, n, _, _, hlen, hxl, hfs⟩ := DataW.trod_struct Try.underlying30 h
  have c36 : Try.prog.cellsOf 30 = 36 := by kernel_rfl
  have c1 : Try.prog.cellsOf 3 = 1 := by kernel_rfl
  have c5 : Try.prog.cellsOf 5 = 1 := by kernel_rfl
  have c9 : Try.prog.cellsOf 9 = 1 := by kernel_rfl
  have c28 : Try.prog.cellsOf 28 = 32 := by kernel_rfl
  have hlen : l.length = 36 := hlen.trans c36
  have hxl : xs.length = 5 := hxl
  have gx : ∀ j (hj : j < 5), xs[j]? = some (xs[j]'(by omega)) := fun j hj => List.getElem?_eq_getElem _
  obtain ⟨nm, e0⟩ : ∃ nm : ByteArray, l[0]? = some (.string nm) := open_str_at Try.underlying9 c9 ((hfs 0 _ rfl).trans (gx 0 (by omega)))
  obtain ⟨t, e1⟩ : ∃ n : Int, l[1]? = some (.int .i64 n) := open_int_at Try.underlying3 c1 ((hfs 1 _ rfl).trans (gx 1 (by omega)))
  obtain ⟨t2, e2⟩ : ∃ n : Int, l[2]? = some (.int .i64 n) := open_int_at Try.underlying3 c1 ((hfs 2 _ rfl).trans (gx 2 (by omega)))
  obtain ⟨t3, e3⟩ : ∃ n : Int, l[3]? = some (.int .i64 n) := open_int_at Try.underlying3 c1 ((hfs 3 _ rfl).trans (gx 3 (by omega)))
  have h4 := (hfs 4 _ rfl).trans (gx 4 (by omega))
  obtain ⟨ys, m, _, _, hl2, hyl, hys⟩ := DataW.trod_array Try.underlying28 h4
  have e4 : ∀ j, j < 32 → ∃ b : Int, l[4 + j]? = some (.int .u8 b) := by
    intro j hj
    have h5 := (hys j hj).trans (List.getElem?_eq_getElem (by omega))
    rw [c5, Nat.mul_one, ← c5] at h5
    obtain ⟨b, hb⟩ := open_int_at Try.underlying5 c5 h5
    rw [List.getElem?_take] at hb
    split at hb
    · rw [List.getElem?_drop] at hb; exact ⟨b, hb⟩
    · cases hb
  obtain ⟨a, b, r, rfl⟩ : ∃ a b r, l = a :: b :: r := by
    match l, hlen with
    | a :: b :: r, _ => exact ⟨a, b, r, rfl⟩
  have ea : a = .string nm := by simpa using e0
  have eb : b = .int .i64 t := by simpa using e1
  subst ea; subst eb
  refine ⟨⟨nm, t, r⟩, rfl, hlen, fun v hv => ?_, ?good⟩
  case good =>
    have f2 : r[0]? = some (.int .i64 t2) := by simpa using e2
    have f3 : r[1]? = some (.int .i64 t3) := by simpa using e3
    have f4 : ∀ j, ∃ b : Int, j < 32 → r[j + 2]? = some (.int .u8 b) := fun j => by
      by_cases hj : j < 32
      · obtain ⟨b, hb⟩ := e4 j hj
        refine ⟨b, fun _ => ?_⟩
        rw [show 4 + j = (j + 2) + 1 + 1 by omega] at hb
        simpa using hb
      · exact ⟨0, fun h => absurd h hj⟩
    refine ⟨t2, t3, (List.range 32).map fun j => (f4 j).choose, ?_, by simp⟩
    have hr : r.length = 34 := by simp at hlen; omega
    apply List.ext_getElem?
    intro j
    match j with
    | 0 => exact f2
    | 1 => exact f3
    | j + 2 =>
      by_cases hj : j < 32
      · have := (f4 j).choose_spec hj
        show r[j + 2]? = _
        rw [this]; simp [hj]
      · show r[j + 2]? = _
        rw [List.getElem?_eq_none (l := r) (by omega)]; symm; apply List.getElem?_eq_none; simp only [List.length_cons, List.length_map, List.length_range]; omega
  obtain ⟨j, hj, rfl⟩ := List.getElem_of_mem hv
  have hj' : j < 36 := by omega
  have key : ∃ u, (Value.string nm :: .int .i64 t :: r)[j]? = some u ∧ u.oneCell' = true := by
    by_cases h4 : 4 ≤ j
    · obtain ⟨b, hb⟩ := e4 (j - 4) (by omega)
      rw [show 4 + (j - 4) = j by omega] at hb
      exact ⟨_, hb, rfl⟩
    · obtain rfl | rfl | rfl | rfl : j = 0 ∨ j = 1 ∨ j = 2 ∨ j = 3 := by omega
      · exact ⟨_, e0, rfl⟩
      · exact ⟨_, e1, rfl⟩
      · exact ⟨_, e2, rfl⟩
      · exact ⟨_, e3, rfl⟩
  obtain ⟨u, hu, ho⟩ := key
  rw [List.getElem?_eq_getElem hj] at hu
  rw [Option.some.inj hu]; exact ho

set_option maxRecDepth 100000 in
theorem open_snaps2 {r : Reach} {b0 : Nat} {v : Value} {d : DataW H} {p : List MemPlace} (hv : Value.okWide Try.prog w r b0 24 v) (h : DataW.Trod enc Try.prog w base spare held 24 v d p) :
    ∃ (a : Option Addr) (L : List Sn) (cap : Nat), v = .slice a L.length cap ∧ SN w a L w.heap.size ∧ (∀ s ∈ L, SnGood s) ∧ (a = none → L.length = 0 ∧ cap = 0) ∧ (∀ s ∈ L, s.cells.length = 36 ∧ ∀ v ∈ s.cells, v.oneCell' = true) := by
  obtain ⟨a, len, cap, rfl⟩ := okWide_slice Try.underlying24 hv
  obtain ⟨fuel, hf⟩ := h
  have hcells : (Value.slice a len cap).cells.toList = [Value.slice a len cap] := rfl
  rw [hcells] at hf
  rcases open_slice Try.underlying24 hf with ⟨h0, _⟩ | ⟨ad, len', cap', m, n, D, Pl, hcs, _, hl, _, hmm, _, hi⟩
  · simp at h0; obtain ⟨rfl, rfl, rfl⟩ := h0
    exact ⟨none, [], 0, rfl, ⟨fun i hi => by simp at hi⟩, (fun s hs => by simp at hs), (fun _ => ⟨rfl, rfl⟩), (fun s hs => by simp at hs)⟩
  · simp at hcs; obtain ⟨rfl, rfl, rfl⟩ := hcs
    have hm : len ≤ m := by rw [hmm]; split <;> omega
    by_cases h0 : len = 0
    · subst h0; exact ⟨some ad, [], cap, rfl, ⟨fun i hi => by simp at hi⟩, (fun s hs => by simp at hs), (fun h => by cases h), (fun s hs => by simp at hs)⟩
    have h36 : Try.prog.cellsOf 30 = 36 := by kernel_rfl
    have hsp : ad.spot = none := by
      obtain ⟨cs', hc, ht⟩ := hi 0 (by omega)
      rw [h36] at hc
      obtain ⟨s, rfl, hlen, hone, hgood⟩ := open_snap2 ht
      obtain ⟨_, hcl, hat⟩ := World.cells?_some hc
      have c0 := hat 0 (by omega)
      have e : s.cells[0]? = some (.string s.name) := rfl
      rw [e] at c0
      cases hq : ad.spot with
      | none => rfl
      | some q =>
        exfalso
        simp only [Nat.zero_mul, Addr.add, if_true, World.cell?, hq, Option.isSome_some] at c0
        split at c0 <;> cases c0
    obtain ⟨b, o, sp⟩ := ad
    simp only at hsp
    subst hsp
    have get : ∀ i, ∃ s : Sn, i < len → b < w.heap.size ∧ w.rangeAt b (o + i * 36) s.cells ∧ (s.cells.length = 36 ∧ ∀ v ∈ s.cells, v.oneCell' = true) ∧ SnGood s := by
      intro i
      by_cases hil : i < len
      · obtain ⟨cs', hc, ht⟩ := hi i (by omega)
        rw [h36] at hc
        obtain ⟨s, rfl, hlen, hone, hgood⟩ := open_snap2 ht
        obtain ⟨_, hcl, hat⟩ := World.cells?_some hc
        have hr : w.rangeAt b (o + i * 36) s.cells := fun j v hj => by
          have hj' : j < 36 := by rw [← hlen]; exact (List.getElem?_eq_some_iff.1 hj).1
          have := hat j hj'
          rw [hj, Addr.add_mid, Addr.add_mid] at this
          exact this
        exact ⟨s, fun _ => ⟨block_lt_of_cell (hr 0 _ rfl), hr, ⟨hlen, hone⟩, hgood⟩⟩
      · exact ⟨default, fun h => absurd h hil⟩
    have mem : ∀ s ∈ (List.range len).map fun i => (get i).choose, (s.cells.length = 36 ∧ ∀ v ∈ s.cells, v.oneCell' = true) ∧ SnGood s := by
      intro s hs
      obtain ⟨i, hi, rfl⟩ := List.mem_map.1 hs
      have := (get i).choose_spec (List.mem_range.1 hi)
      exact ⟨this.2.2.1, this.2.2.2⟩
    refine ⟨some ⟨b, o, none⟩, (List.range len).map fun i => (get i).choose, cap, by simp, ⟨fun i hi => ?_⟩, fun s hs => (mem s hs).2, fun h => (by cases h), fun s hs => (mem s hs).1⟩
    have hil : i < len := by simpa using hi
    obtain ⟨hB, hr, ⟨h1, h2⟩, _⟩ := (get i).choose_spec hil
    have e2 : at' ((List.range len).map fun i => (get i).choose) i = (get i).choose := by simp [at', hil]
    rw [e2]
    exact ⟨b, o, rfl, hB, hr, h1, h2⟩
end
end Go.Proofs.Ytijkadahcggmeaa
