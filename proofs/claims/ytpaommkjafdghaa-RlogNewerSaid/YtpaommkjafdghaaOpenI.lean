/- A slice of int64s that came in, opened. -/
import Derived.Test.YtpaommkjafdghaaOpen
import Derived.Test.YtpaommkjafdghaaInts
namespace Go.Proofs.Ytpaommkjafdghaa
open Go.ChangeShapes Go.WideShapes Go.ChangeAt Go.RowKit

set_option maxRecDepth 100000 in
theorem open_i64s {H : Type} {enc : TypeId × Value → H} {W : World} {r : Reach} {b0 : Nat} {v : Value} {d : DataW H} {p : List MemPlace}
    (hv : Value.okWide Try.prog W r b0 48 v) (h : DataW.Trod enc Try.prog W 0 (fun _ => true) true 48 v d p) :
    ∃ a len cap zs, v = .slice a len cap ∧ RowN W a 1 len (cellsZ zs) ∧ len ≤ cap ∧ cap ≤ maxLen ∧ (a = none → cap = 0) ∧ cap + 1 ≤ Rows.uptoBulk d := by
  obtain ⟨a, len, cap, rfl⟩ := okWide_slice Try.underlying48 hv
  obtain ⟨fuel, hf⟩ := h
  rcases open_ints Try.underlying48 Try.underlying2 (by kernel_rfl) hf with ⟨hcs, hx⟩ | ⟨x, l, c, zs, hcs, _, hl, hm, hz, hx, hcell, hwz⟩
  · simp [Value.cells] at hcs
    obtain ⟨rfl, rfl, rfl⟩ := hcs
    injection hx with hx _
    subst hx
    exact ⟨none, 0, 0, [], rfl, RowN.nil _ _ _, Nat.le_refl _, by simp [maxLen], fun _ => rfl, by simp [Rows.uptoBulk]⟩
  · simp [Value.cells] at hcs
    obtain ⟨rfl, rfl, rfl⟩ := hcs
    simp only [if_true] at hz
    injection hx with hx _
    subst hx
    refine ⟨some x, len, cap, zs.take len, rfl, ⟨by rw [cellsZ_len, List.length_take]; omega, fun hn => ?_⟩, hl, hm, (fun h => by cases h), ?_⟩
    · have h0 := hcell 0 (by omega)
      obtain ⟨b, off, spot⟩ := x
      have hspot : spot = none := by simpa [Addr.add] using World.cell?_spot h0
      subst hspot
      refine ⟨b, off, rfl, fun j u hu => ?_⟩
      have hj : j < len := by
        have := (List.getElem?_eq_some_iff.1 hu).1
        rw [cellsZ_len, List.length_take] at this
        omega
      have hi' := hcell j (by omega)
      rw [add_plain] at hi'
      rw [hi']
      simp [cellsZ, hj, List.getElem?_eq_getElem (show j < zs.length by omega)] at hu
      rw [List.getD_eq_getElem?_getD, List.getElem?_eq_getElem (show j < zs.length by omega)]
      rw [← hu]
      rfl
    · have h1 := bulk_length (H := H) (lits .i64 (zs.take len))
      have h2 := bulk_length (H := H) (lits .i64 (zs.drop len))
      simp only [Rows.uptoBulk]
      simp only [lits, List.length_map, List.length_take, List.length_drop] at h1 h2
      simp only [lits]
      omega
end Go.Proofs.Ytpaommkjafdghaa
