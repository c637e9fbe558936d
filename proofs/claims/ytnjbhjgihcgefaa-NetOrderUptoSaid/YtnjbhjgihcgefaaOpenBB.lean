/- A slice of slices of bytes that came in, opened. -/
import Derived.Test.YtnjbhjgihcgefaaOpen
import Derived.Test.YtnjbhjgihcgefaaOrder
namespace Go.Proofs.Ytnjbhjgihcgefaa
open Go.ChangeShapes Go.WideShapes Go.ChangeAt Go.RowKit

/-- A slice of slices of bytes that came in. -/
theorem open_bytess {H : Type} {enc : TypeId × Value → H} {W : World} {r : Reach} {b0 : Nat} {v : Value} {d : DataW H} {p : List MemPlace}
    (hv : Value.okWide Try.prog W r b0 22 v) (h : DataW.Trod enc Try.prog W 0 (fun _ => true) true 22 v d p) :
    ∃ a len cap ss, v = .slice a len cap ∧ RowN W a 1 len (ss.map Sl.val) ∧ (∀ s ∈ ss, Sl.ok W s) ∧ len ≤ cap ∧ cap ≤ maxLen ∧ (a = none → cap = 0) ∧ bulk8 ss + 1 ≤ Rows.uptoBulk d := by
  obtain ⟨a, len, cap, rfl⟩ := okWide_slice Try.underlying22 hv
  obtain ⟨fuel, hf⟩ := h
  rcases Go.Deep.open_slice1 Try.underlying22 (by kernel_rfl) hf with ⟨hcs, hx⟩ | ⟨x, l, c, m, n, V, D, Pl, hcs, _, hl, hm, hmm, hx, hcell⟩
  · simp [Value.cells] at hcs
    obtain ⟨rfl, rfl, rfl⟩ := hcs
    simp only [Prod.mk.injEq] at hx
    obtain ⟨rfl, rfl⟩ := hx
    exact ⟨none, 0, 0, [], rfl, RowN.nil _ _ _, (fun s hs => by cases hs), Nat.le_refl _, by simp [maxLen], fun _ => rfl, by simp [Rows.uptoBulk, bulk8]⟩
  · simp [Value.cells] at hcs
    obtain ⟨rfl, rfl, rfl⟩ := hcs
    simp only [if_true] at hmm
    simp only [Prod.mk.injEq] at hx
    obtain ⟨rfl, rfl⟩ := hx
    have hE : ∀ i, i < len → ∃ s : Sl, V i = s.val ∧ s.ok W ∧ s.len + 1 ≤ Rows.uptoBulk (D i) := fun i hi => by
      obtain ⟨a', l', c', bs', hv', hr', h1, h2, h3, h4⟩ := bytes_trod (hcell i (by omega)).2
      exact ⟨⟨a', l', c', bs'⟩, hv', ⟨hr', h1, h2, h3⟩, by simp only at h4 ⊢; omega⟩
    have : Inhabited Sl := ⟨⟨none, 0, 0, []⟩⟩
    obtain ⟨S, hS⟩ := Go.Deep.choose_lt hE
    refine ⟨some x, len, cap, (List.range len).map S, rfl, ⟨by simp, fun hn => ?_⟩, ?_, hl, hm, (fun h => by cases h), ?_⟩
    · have h0 := (hcell 0 (by omega)).1
      have ha0 : x.add 0 = x := by simp [Addr.add]
      rw [ha0] at h0
      obtain ⟨b, off, rfl⟩ := row_add0 x h0
      refine ⟨b, off, rfl, fun j u hu => ?_⟩
      have hj : j < len := by simpa using (List.getElem?_eq_some_iff.1 hu).1
      have hc := (hcell j (by omega)).1
      rw [add_plain] at hc
      rw [hc, ← hu, (hS j hj).1]
      simp [hj]
    · intro s hs
      simp only [List.mem_map, List.mem_range] at hs
      obtain ⟨i, hi, rfl⟩ := hs
      exact (hS i hi).2.1
    · have hb : bulk8 ((List.range len).map S) ≤ Rows.uptoBulkAll ((List.range len).map D) := by
        have : ∀ k, k ≤ len → bulk8 ((List.range k).map S) ≤ Rows.uptoBulkAll ((List.range k).map D) := fun k => by
          induction k with
          | zero => intro _; simp [bulk8, Rows.uptoBulkAll]
          | succ k ih =>
            intro hk
            have h1 := ih (by omega)
            have h2 := (hS k (by omega)).2.2
            rw [List.range_succ, List.map_append, List.map_append, bulk_append]
            simp only [bulk8, List.map_append, List.sum_append, List.map_cons, List.map_nil, List.sum_cons, List.sum_nil, Rows.uptoBulkAll] at h1 ⊢
            omega
        exact this len (Nat.le_refl _)
      simp only [Rows.uptoBulk]
      omega

end Go.Proofs.Ytnjbhjgihcgefaa
