/- Small laws of one's own: one element appended to a row of one's own. No program here. -/
import Derived.OwnWalk
import Derived.WalkKit
namespace Go.Proofs.Ytijkadahcggmeaa
open Go.RowKit
/-- What is known of a slice's element type. -/
structure Elem (P : Program) (t e : TypeId) (z : Value) (size bytes : Nat) : Prop where
  hu : P.underlying t = some (.slice e)
  info : (P.info? e).map (fun i => (i.zero, i.size, i.bytes)) = some (some z, size, bytes)
  hzs : z.cells.size = size
  pos : 0 < size
  hby : bytes ≤ 1024

theorem wpList_app {P : Program} {ops : Array Oper} {rest : List Oper} {o : Oper} {a : Act} {w : World} {Q : Exit → Act → World → Prop} (hgd : o.guard = none) (s x : Operand) (t : TypeId)
    (ho : o.op = .call { callee := .builtin .append, args := #[s, x], argTypes := #[t, t] })
    {e : TypeId} {z : Value} {size bytes : Nat} (E : Elem P t e z size bytes) (B : Nat)
    (v : Value) (n : Nat) (xs : List Value) (hs : a.eval s = v) (hown : w.ownsRow B e size v n xs)
    (ad : Addr) (m c : Nat) (news : List Value) (hx : a.eval x = .slice (some ad) m c) (hl : news.length = m * size) (hnews : ∀ j u, news[j]? = some u → w.cell? (ad.add j) = some u) (h1 : ∀ u ∈ news, u.oneCell' = true)
    (hn : n + m ≤ 137438953472) (W0 : World) (hb : Below B W0 w) (hB : B ≤ w.heap.size)
    (h : ∀ v' w', w'.ownsRow B e size v' (n + m) (xs ++ news) → Below B W0 w' → wpList P ops Q rest (a.put o.dst v') w') : wpList P ops Q (o :: rest) a w := by
  obtain ⟨i0, hi0, hz0, hz1, hz2⟩ := info_parts E.info
  have hmul : (n + m) * bytes ≤ 140737488355328 := by
    have := Nat.mul_le_mul hn E.hby
    omega
  refine wpList_append_own _ hgd s x t ho B e i0 z size bytes E.hu hi0 hz0 hz1 hz2 E.hzs E.pos v n xs hs hown ad m c news hx hl hnews h1 (by unfold maxLen; omega) hmul hB ?_
  intro v' w' hown' hgrow _
  exact h v' w' hown' (hb.grown hgrow hB (fun q hq => (hown.lt q hq).1))
end Go.Proofs.Ytijkadahcggmeaa
