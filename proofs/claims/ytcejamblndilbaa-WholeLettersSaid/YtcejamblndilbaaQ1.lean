/- The document's messages: number, bare, Only. -/
import Derived.Test.YtcejamblndilbaaSame1
namespace Go.Proofs.Ytcejamblndilbaa
open Go.RowKit

theorem wpList_buildM {ops : Array Oper} {rest : List Oper} {o : Oper} {a : Act} {w : World} {Q : Exit → Act → World → Prop} (hg : o.guard = none) (m : Ms) (parts : Array (Nat × Operand)) (ho : o.op = .build 28 parts)
    (hb : Try.prog.built 28 (parts.map fun (i, x) => (i, a.eval x)).toList = some m.cs) (h : wpList Try.prog ops Q rest (a.put o.dst (.agg m.cs)) w) : wpList Try.prog ops Q (o :: rest) a w :=
  wpList_plain hg fun _ hK => by
    have := hK _ _ h
    unfold Oper.wp execOp
    simp only [ho, Sem.run_bind, run_build (P := Try.prog) w 28 _ _ hb, Result.andThen_ok]
    exact this

set_option maxRecDepth 100000 in
set_option maxHeartbeats 3200000 in
theorem number17_any (n least : Int) (w : World) : Calls Try.prog 39 #[.int .i64 n, .int .i64 least] w (RetQuiet w (.bool (numberOf n least))) := by
  unfold numberOf
  by_cases h1 : least ≤ n
  · rw [decide_eq_true h1, Bool.true_and]
    go_enter Try.func39, Try.ntmps39
    go_wp2_with fail
    go_ret
    exact ⟨by simp, 0, rfl⟩
  · rw [decide_eq_false h1, Bool.false_and]
    go_enter Try.func39, Try.ntmps39
    go_wp2_with fail
    go_ret
    exact ⟨by first | rfl | simp, 0, rfl⟩

def bareOf (m : Ms) : Ms := ⟨m.kind, m.fr, m.to, m.term, 0, 0, 0, false, none, 0, 0, [], 0, ⟨none, 0, 0, []⟩, false, ⟨⟨none, 0, 0, []⟩, ⟨none, 0, 0, []⟩⟩⟩
theorem bare_built (k f t n : Int) : Try.prog.built 28 [(0, .int .i64 k), (1, .int .i64 f), (2, .int .i64 t), (3, .int .i64 n)] = some #[.int .i64 k, .int .i64 f, .int .i64 t, .int .i64 n, .int .i64 0, .int .i64 0, .int .i64 0, .bool false, .slice none 0 0, .int .i64 0, .slice none 0 0, .bool false, .slice none 0 0, .slice none 0 0] := by kernel_rfl

set_option maxRecDepth 100000 in
set_option maxHeartbeats 3200000 in
theorem bare_any (m : Ms) (w : World) : Calls Try.prog 77 #[.agg m.cs] w (RetBox w (.agg (bareOf m).cs)) := by
  obtain ⟨X, hX⟩ : ∃ X, X = (w.alloc (.cells m.cs 28)).alloc (.cells zeroM.cs 28) := ⟨_, rfl⟩
  have hXb : Below w.heap.size w X := hX ▸ below_alloc (below_alloc (Below.refl _ _) _) _
  have hXs : X.heap.size = w.heap.size + 2 := by rw [hX, World.size_alloc, World.size_alloc]
  have hXa : X.heap[w.heap.size]? = some (.cells m.cs 28 (0, 0)) := hX ▸ (heap_alloc_old _ _ (by rw [World.size_alloc]; omega)).trans (heap_alloc_new w _)
  have hXc : X.heap[w.heap.size + 1]? = some (.cells zeroM.cs 28 (0, 0)) := by have := heap_alloc_new (w.alloc (.cells m.cs 28)) (.cells zeroM.cs 28); rw [World.size_alloc] at this; rw [hX]; exact this
  have HX := Lib.hid hX
  have HXB := Lib.hid hXb
  have HXA := Lib.hid hXa
  have HXC := Lib.hid hXc
  clear hX hXb hXs hXa hXc
  obtain ⟨kind, fr, tt, term, index, logTerm, commit, ok, ea, en, ecap, es, off, d, last, c⟩ := m
  simp only [Ms.cs, zeroM] at HX ⊢
  go_enter Try.func77, Try.ntmps77
  go_upto_region 1 with fail
  rw [← HX.out]
  obtain ⟨b0, b1, b2, b3, -⟩ := ms_cells HXA.out
  simp only at b0 b1 b2 b3
  go_wp2_with (first
    | (refine wpList_buildM rfl (bareOf ⟨kind, fr, tt, term, index, logTerm, commit, ok, ea, en, ecap, es, off, d, last, c⟩) _ rfl (bare_built kind fr tt term) ?_)
    | (refine wpList_storeM rfl _ _ rfl (w.heap.size + 1) (bareOf ⟨kind, fr, tt, term, index, logTerm, commit, ok, ea, en, ecap, es, off, d, last, c⟩) zeroM rfl rfl _ HXC.out ?_; intro w3 hd3 ht3; have HD3 := Lib.hid hd3; have HT3 := Lib.hid ht3; clear hd3 ht3))
  exact bodyPost_ret (results_cell Try.results77 rfl (load_msg HD3.out)) rfl ⟨rfl, below_of_touch HXB.out HT3.out (by omega)⟩
end Go.Proofs.Ytcejamblndilbaa
