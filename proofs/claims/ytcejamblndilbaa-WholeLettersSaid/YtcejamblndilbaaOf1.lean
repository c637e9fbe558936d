/- Lists of values that grow (out of pack's text). -/
import Derived.Test.YtcejamblndilbaaPk3
namespace Go.Proofs.Ytcejamblndilbaa
open Go.RowKit

theorem info_val : (Try.prog.info? 65).map (fun i => (i.zero, i.size, i.bytes)) = some (some (.agg #[.int .i64 0, .int .i64 0, .float .f64 0, .slice none 0 0, .bool false]), 5, 56) := by kernel_rfl
theorem wpList_appendVal {w : World} {ops : Array Oper} {rest : List Oper} {o : Oper} {a : Act} {Q : Exit → Act → World → Prop} (hgd : o.guard = none) (s x : Operand)
    (ho : o.op = .call { callee := .builtin .append, args := #[s, x], argTypes := #[62, 62] })
    (base : Nat) (ao : Option Addr) (n cap : Nat) (vs : List Value) (hs : a.eval s = .slice ao n cap) (hown : w.ownsRow base 65 5 (.slice ao n cap) n vs)
    (ax : Option Addr) (m c : Nat) (xs : List Value) (hx : a.eval x = .slice ax m c) (hrow : RowN w ax 5 m xs) (hnil : ax = none → c = 0) (h1 : ∀ u ∈ xs, u.oneCell' = true) (hbig : n + m ≤ 1000000000000) (hbase : base ≤ w.heap.size) (N : Nat) (hN : n + m = N)
    (h : ∀ ao' cap' w', w'.ownsRow base 65 5 (.slice ao' N cap') N (vs ++ xs) → w.grownBy w' (Value.ownBlock (.slice ao n cap)) →
      (Value.ownBlock (.slice ao' N cap') = Value.ownBlock (.slice ao n cap) ∨ Value.ownBlock (.slice ao' N cap') = some w.heap.size) → wpList Try.prog ops Q rest (a.put o.dst (.slice ao' N cap')) w') : wpList Try.prog ops Q (o :: rest) a w := by
  obtain ⟨i0, hi, hz0, hz1, hz2⟩ := info_parts info_val
  exact wpList_append_row hgd s x _ ho base 65 i0 _ 5 56 Try.underlying62 hi hz0 hz1 hz2 rfl (by decide) ao n cap vs hs hown ax m c xs hx hrow.1 hrow.news hnil h1 (by simp only [maxLen]; omega) (by omega) hbase N hN h
theorem cells_one5 (v : Vl) : ∀ u ∈ v.cells, u.oneCell' = true := by
  intro u hu
  simp only [Vl.cells, List.mem_cons, List.not_mem_nil, or_false] at hu
  rcases hu with rfl | rfl | rfl | rfl | rfl <;> rfl
theorem cells_all5 (vs : List Vl) : ∀ u ∈ vs.flatMap Vl.cells, u.oneCell' = true := by
  intro u hu
  obtain ⟨v, _, hv⟩ := List.mem_flatMap.1 hu
  exact cells_one5 v u hv
theorem cells_len5 (vs : List Vl) : (vs.flatMap Vl.cells).length = vs.length * 5 := by
  induction vs with
  | nil => rfl
  | cons v r ih => rw [List.flatMap_cons, List.length_append, ih, List.length_cons]; simp [Vl.cells]; omega
end Go.Proofs.Ytcejamblndilbaa
