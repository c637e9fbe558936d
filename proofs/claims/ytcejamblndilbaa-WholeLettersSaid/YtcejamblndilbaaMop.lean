/- Messages in cells: built, stored, loaded whole. -/
import Derived.Test.YtcejamblndilbaaDec1
import Derived.Deep.MidRow
namespace Go.Proofs.Ytcejamblndilbaa
open Go.RowKit

theorem zeroM_built : Try.prog.built 28 [] = some zeroM.cs := by kernel_rfl
theorem wpList_zeroM {ops : Array Oper} {rest : List Oper} {o : Oper} {a : Act} {w : World} {Q : Exit → Act → World → Prop} (hg : o.guard = none) (ho : o.op = .build 28 #[])
    (h : wpList Try.prog ops Q rest (a.put o.dst (.agg zeroM.cs)) w) : wpList Try.prog ops Q (o :: rest) a w := by
  have e : Try.prog.built 28 ((#[] : Array (Nat × Operand)).map fun (i, x) => (i, a.eval x)).toList = some zeroM.cs := (congrArg (fun l : List (Nat × Value) => Try.prog.built 28 l) (by simp)).trans zeroM_built
  exact wpList_plain hg fun _ hK => by
    have := hK _ _ h
    unfold Oper.wp execOp
    simp only [ho, Sem.run_bind, run_build (P := Try.prog) w 28 _ _ e, Result.andThen_ok]
    exact this
theorem cs_size (m : Ms) : m.cs.size = 14 := rfl
theorem cs_one (m : Ms) : m.cs.all (·.oneCell') = true := by kernel_rfl
theorem setCells_setM (w : World) (C : Nat) (m : Ms) : w.setCells C 0 m.cs.toList = setM w C m := rfl
theorem there_ms {w : World} {C : Nat} {u : Ms} {t : TypeId} (h : w.heap[C]? = some (.cells u.cs t (0, 0))) : w.there C 0 14 := by
  intro j hj
  refine ⟨?_, by simp [World.frozen?, h]⟩
  simp only [World.cell?, h, Nat.zero_add]
  rw [Array.getElem?_eq_getElem (by rw [cs_size]; exact hj)]
  rfl
theorem wpList_storeM {ops : Array Oper} {rest : List Oper} {o : Oper} {a : Act} {w : World} {Q : Exit → Act → World → Prop} (hgd : o.guard = none) (x y : Operand) (ho : o.op = .store 28 x y)
    (C : Nat) (m u : Ms) (hx : a.eval x = .pointer (some ⟨C, 0, none⟩)) (hy : a.eval y = .agg m.cs) (t : TypeId) (hC : w.heap[C]? = some (.cells u.cs t (0, 0)))
    (h : ∀ w', w'.heap[C]? = some (.cells m.cs t (0, 0)) → Touch [C] w w' → wpList Try.prog ops Q rest (a.put o.dst undef) w') : wpList Try.prog ops Q (o :: rest) a w := by
  refine wpList_store_mid hgd 28 x y ho C 0 m.cs hx hy (there_ms hC) (by rw [cs_size]; kernel_rfl) (cs_one m) ?_
  rw [setCells_setM]
  exact h _ (setM_block hC) (setM_touch w C m)
theorem wpList_loadM {ops : Array Oper} {rest : List Oper} {o : Oper} {a : Act} {w : World} {Q : Exit → Act → World → Prop} (hgd : o.guard = none) (x : Operand) (ho : o.op = .load 28 x)
    (C : Nat) (m : Ms) (t : TypeId) (hx : a.eval x = .pointer (some ⟨C, 0, none⟩)) (hC : w.heap[C]? = some (.cells m.cs t (0, 0)))
    (h : wpList Try.prog ops Q rest (a.put o.dst (.agg m.cs)) w) : wpList Try.prog ops Q (o :: rest) a w :=
  wpList_load_mid hgd 28 x ho C 0 hx m.cs.toList _ (fun j v hv => by
    simp only [World.cell?, hC, Nat.zero_add]
    rw [← hv]; simp) Try.underlying28 rfl (by show _ = some 14; kernel_rfl) (by simpa using h)
end Go.Proofs.Ytcejamblndilbaa
