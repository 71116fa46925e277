/- Helpers of the walk of PruneKeeps: '!=' between a snapshot and itself; a struct read in a region that draws; the copy with a mark. -/
import Derived.Test.YtijkadahcggmeaaR7
import Derived.Test.YtijkadahcggmeaaT1
import Derived.Laws.StructEq
import Derived.ChangeKeysEq
import Derived.Laws.AppendOwnNone
import Derived.Deep.MidRow
namespace Go.Proofs.Ytijkadahcggmeaa
open Go.RowKit Go.Sort Go.Shelf Go.Lib

/-- All cells are of their kinds. -/
def SnGood (s : Sn) : Prop := ∃ (a b : Int) (bs : List Int), s.rest = .int .i64 a :: .int .i64 b :: bs.map (Value.int .u8) ∧ bs.length = 32

theorem isAgg5' (w : World) : (isAgg 5).run Try.prog w = .ok false w := Try.isAgg5 w
theorem eqItems_self (w : World) (d : Nat) (xs : Array Value) (is : List Nat) (h : ∀ i ∈ is, ∃ b, xs[i]? = some (.int .u8 b)) :
    (Op.eqItems (d + 1) 5 1 xs xs is).run Try.prog w = .ok true w := by
  induction is with
  | nil => simp [Op.eqItems]
  | cons i is ih =>
    obtain ⟨b, hb⟩ := h i List.mem_cons_self
    have hp : (part 5 xs (i * 1)).run Try.prog w = .ok (.int .u8 b) w := by
      rw [Nat.mul_one]; simp [part, isAgg5', hb]
    have he : (Op.equalIn (d + 1) 5 (.int .u8 b) (.int .u8 b)).run Try.prog w = .ok true w := by
      rw [run_equalIn_int w d 5 .u8 .u8 b b Try.underlying5]; simp
    simp only [Op.eqItems, Sem.run_bind, hp, he, Result.andThen_ok]
    simpa using ih fun i hi => h i (List.mem_cons_of_mem _ hi)
theorem fields30 : (Try.prog.fieldsOf 30).toList.map (fun f => (f.name, f.type, f.offset)) = [("Name", 9, 0), ("Time", 3, 1), ("Size", 3, 2), ("Chunks", 3, 3), ("Root", 28, 4)] := by kernel_rfl
theorem eqFields_self (w : World) (d : Nat) (xs : Array Value) (fs : List Field) (h : ∀ f ∈ fs, ∃ a, (part f.type xs f.offset).run Try.prog w = .ok a w ∧ (Op.equalIn d f.type a a).run Try.prog w = .ok true w) :
    (Op.eqFields d xs xs fs).run Try.prog w = .ok true w := by
  induction fs with
  | nil => simp [Op.eqFields]
  | cons f fs ih =>
    obtain ⟨a, hp, he⟩ := h f List.mem_cons_self
    have := ih fun f hf => h f (List.mem_cons_of_mem _ hf)
    simp only [Op.eqFields]
    split
    · simp only [Sem.run_bind, hp, he, Result.andThen_ok]
      simpa using this
    · exact this
theorem part_plain (t : TypeId) (xs : Array Value) (o : Nat) (v : Value) (w : World) (ha : ∀ w, (isAgg t).run Try.prog w = .ok false w) (hv : xs[o]? = some v) : (part t xs o).run Try.prog w = .ok v w := by
  simp [part, ha, hv]
theorem neq_self (s : Sn) (h : SnGood s) (w : World) : (binOp .neq 30 (.agg s.cells.toArray) (.agg s.cells.toArray)).run Try.prog w = .ok (.bool false) w := by
  obtain ⟨a, b, bs, hr, hl⟩ := h
  have he : (Op.equal 30 (.agg s.cells.toArray) (.agg s.cells.toArray)).run Try.prog w = .ok true w := by
    show (Op.equalIn (9999 + 1) 30 (.agg s.cells.toArray) (.agg s.cells.toArray)).run Try.prog w = .ok true w
    rw [run_equalIn_struct w 9999 30 _ _ (by kernel_rfl) (by kernel_rfl)]
    refine eqFields_self w 9999 _ _ fun f hf => ?_
    have hm : (f.name, f.type, f.offset) ∈ [("Name", 9, 0), ("Time", 3, 1), ("Size", 3, 2), ("Chunks", 3, 3), ("Root", 28, 4)] := by
      rw [← fields30]; exact List.mem_map_of_mem hf
    simp only [List.mem_cons, Prod.mk.injEq, List.not_mem_nil, or_false] at hm
    rcases hm with ⟨_, h1, h2⟩ | ⟨_, h1, h2⟩ | ⟨_, h1, h2⟩ | ⟨_, h1, h2⟩ | ⟨_, h1, h2⟩
    all_goals rw [h1, h2]
    · exact ⟨_, part_plain 9 _ 0 (.string s.name) w Try.isAgg9 rfl, by rw [run_equalIn_string w 9998 9 _ _ Try.underlying9]; simp⟩
    · exact ⟨_, part_plain 3 _ 1 (.int .i64 s.time) w Try.isAgg3 rfl, by rw [run_equalIn_int w 9998 3 .i64 .i64 _ _ Try.underlying3]; simp⟩
    · exact ⟨_, part_plain 3 _ 2 (.int .i64 a) w Try.isAgg3 (by simp [Sn.cells, hr]), by rw [run_equalIn_int w 9998 3 .i64 .i64 _ _ Try.underlying3]; simp⟩
    · exact ⟨_, part_plain 3 _ 3 (.int .i64 b) w Try.isAgg3 (by simp [Sn.cells, hr]), by rw [run_equalIn_int w 9998 3 .i64 .i64 _ _ Try.underlying3]; simp⟩
    · have hx : List.take 32 (List.drop 4 s.cells) = bs.map (Value.int .u8) := by
        simp only [Sn.cells, hr, List.drop_succ_cons, List.drop_zero]
        exact List.take_of_length_le (by simp [hl])
      refine ⟨.agg (bs.map (Value.int .u8)).toArray, ?_, ?_⟩
      · have hsz : (sizeOf 28).run Try.prog w = .ok 32 w := Try.sizeOf28 w
        have hag : (isAgg 28).run Try.prog w = .ok true w := Try.isAgg28 w
        simp [part, hag, hsz, hx]
      · cases hi : Try.prog.info? 5 with
        | none => exact absurd hi (by have : (Try.prog.info? 5).isSome = true := by kernel_rfl
                                      intro h; rw [h] at this; cases this)
        | some i5 =>
          rw [run_equalIn_array w 9998 (n := 32) (e := 5) (i := i5) _ _ Try.underlying28 hi, show Try.prog.cellsOf 5 = 1 by kernel_rfl]
          refine eqItems_self w 9997 _ _ fun i hi => ?_
          have : i < 32 := List.mem_range.1 hi
          exact ⟨bs[i]'(by omega), by simp [hl, this]⟩
  show (Op.equal 30 _ _ >>= fun r => pure (Value.bool !r)).run Try.prog w = _
  rw [Sem.run_bind, he]; simp

theorem quiet_load_mid {P : Program} {o : Oper} {a : Act} {C : World → Prop} {K : Act → Prop} (ty : TypeId) (x : Operand) (ho : o.op = .load ty x)
    (b off : Nat) (hx : a.eval x = .pointer (some ⟨b, off, none⟩)) (cs : List Value) (d : TypeDesc) (hc : ∀ w, C w → w.rangeAt b off cs)
    (hu : P.underlying ty = some d) (hd : d.isRow = true) (hi : (P.info? ty).map (·.size) = some cs.length)
    (hk : K (a.put o.dst (.agg cs.toArray))) : o.quiet P a C K :=
  ⟨_, fun w hw => by
    unfold Oper.quietAt execOp
    simp only [ho, hx, Instr.loadAt, Instr.sureAddr, Sem.run_bind, Sem.run_pure, Result.andThen_ok, run_loadVar_mid w b off ty cs d (hc w hw) hu hd hi]
    exact ⟨rfl, rfl⟩, hk⟩

/-- 'append' behind a row of one's own, from a list that came in, nil or not. -/
theorem wpList_app_any {P : Program} {ops : Array Oper} {rest : List Oper} {o : Oper} {a : Act} {w : World} {Q : Exit → Act → World → Prop} (hgd : o.guard = none) (s x : Operand) (t : TypeId)
    (ho : o.op = .call { callee := .builtin .append, args := #[s, x], argTypes := #[t, t] })
    {e : TypeId} {z : Value} {size bytes : Nat} (E : Elem P t e z size bytes) (B : Nat)
    (v : Value) (n : Nat) (xs : List Value) (hs : a.eval s = v) (hown : w.ownsRow B e size v n xs)
    (ad : Option Addr) (m c : Nat) (news : List Value) (hx : a.eval x = .slice ad m c) (hl : news.length = m * size)
    (hnews : ∀ p, ad = some p → ∀ j u, news[j]? = some u → w.cell? (p.add j) = some u) (hnil : ad = none → m = 0 ∧ c = 0) (h1 : ∀ u ∈ news, u.oneCell' = true)
    (hn : n + m ≤ 137438953472) (W0 : World) (hb : Below B W0 w) (hB : B ≤ w.heap.size)
    (h : ∀ v' w', w'.ownsRow B e size v' (n + m) (xs ++ news) → Below B W0 w' → wpList P ops Q rest (a.put o.dst v') w') : wpList P ops Q (o :: rest) a w := by
  cases ad with
  | none =>
    obtain ⟨rfl, rfl⟩ := hnil rfl
    obtain ⟨i0, hi0, hz0, hz1, hz2⟩ := info_parts E.info
    have e0 : news = [] := List.length_eq_zero_iff.1 (by rw [hl, Nat.zero_mul])
    subst e0
    refine wpList_append_own_none hgd s x t ho B e i0 size E.hu hi0 v n xs hs hown hx ?_
    have := h v w (by rw [List.append_nil, Nat.add_zero]; exact hown) hb
    exact this
  | some p => exact wpList_app hgd s x t ho E B v n xs hs hown p m c news hx hl (hnews p rfl) h1 hn W0 hb hB h
end Go.Proofs.Ytijkadahcggmeaa
