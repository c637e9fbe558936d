/- Entries and numbers that came in, opened (out of rlog's texts). -/
import Derived.Test.YtcejamblndilbaaOpen
import Derived.Test.YtcejamblndilbaaInts
import Derived.Deep.Fields
import Derived.ChangeSame
import Derived.Laws.Cover2
namespace Go.Proofs.Ytcejamblndilbaa
open Go.ChangeShapes Go.WideShapes Go.ChangeAt Go.RowKit Go.Deep

/-- how much there is of it -/
def bulkE (os : List En) : Nat := (os.map fun o => o.s.len + 1).sum
theorem bulkE_cons (o : En) (r : List En) : bulkE (o :: r) = o.s.len + 1 + bulkE r := by simp [bulkE]
theorem bulkE_mem {os : List En} {o : En} (h : o ∈ os) : o.s.len + 1 ≤ bulkE os := by
  induction os with
  | nil => cases h
  | cons x r ih =>
    rw [bulkE_cons]
    rcases List.mem_cons.1 h with rfl | h
    · omega
    · have := ih h; omega
theorem bulkE_len (os : List En) : os.length ≤ bulkE os := by
  induction os with
  | nil => exact Nat.zero_le _
  | cons x r ih => rw [bulkE_cons, List.length_cons]; omega
theorem bulk_mem {H : Type} {l : List (DataW H)} {x : DataW H} (h : x ∈ l) : Rows.uptoBulk x ≤ Rows.uptoBulkAll l := by
  induction l with
  | nil => cases h
  | cons y r ih =>
    simp only [Rows.uptoBulkAll]
    rcases List.mem_cons.1 h with rfl | h
    · omega
    · have := ih h; omega
theorem olist4 {α : Type} {l : List α} (h : l.length = 4) : ∃ a b c d, l = [a, b, c, d] := by
  match l, h with
  | [a, b, c, d], _ => exact ⟨a, b, c, d, rfl⟩
theorem cells_entry : Try.prog.cellsOf 41 = 4 := by kernel_rfl
theorem cells_i64 : Try.prog.cellsOf 2 = 1 := by kernel_rfl
theorem cells_int : Try.prog.cellsOf 3 = 1 := by kernel_rfl
theorem cells_bytes : Try.prog.cellsOf 23 = 1 := by kernel_rfl
set_option maxRecDepth 100000 in
set_option maxHeartbeats 800000 in
/-- How a slice of entries reads. -/
theorem ents_trod {H : Type} {enc : TypeId × Value → H} {W : World} {fuel : Nat} {v : Value} {y : DataW H × List MemPlace}
    (hf : DataW.trod enc Try.prog W 0 (fun _ => true) true fuel 22 [v] = some y) :
    ∃ a len cap es, v = .slice a len cap ∧ RowN W a 4 len (es.flatMap En.cells) ∧ es.length = len ∧ (∀ o ∈ es, Sl.ok W o.s) ∧ len ≤ cap ∧ cap ≤ maxLen ∧ (a = none → cap = 0) ∧ bulkE es + 1 ≤ Rows.uptoBulk y.1 := by
  rcases open_slice Try.underlying22 hf with ⟨hcs, hx⟩ | ⟨x, len, cap, m, nf, D, Pl, hcs, _, hl, hm, hmm, hx, hel⟩
  · simp only [List.cons.injEq, and_true] at hcs
    subst hcs
    subst hx
    exact ⟨none, 0, 0, [], rfl, RowN.nil _ _ _, rfl, (fun s hs => by cases hs), Nat.le_refl _, by simp [maxLen], fun _ => rfl, by simp [Rows.uptoBulk, bulkE]⟩
  · simp only [List.cons.injEq, and_true] at hcs
    subst hcs
    simp only [if_true] at hmm
    subst hx
    have hE : ∀ i, i < len → ∃ s : En, (∀ j u, s.cells[j]? = some u → W.cell? (x.add (i * 4 + j)) = some u) ∧ s.s.ok W ∧ s.s.len + 1 ≤ Rows.uptoBulk (D i) := fun i hi => by
      obtain ⟨cs', hc, ht⟩ := hel i (by omega)
      rw [cells_entry] at hc
      obtain ⟨ys, n', _, hy, _, hyl, hff⟩ := DataW.trod_struct Try.underlying41 ht
      obtain ⟨_, hcl, hat⟩ := World.cells?_some hc
      obtain ⟨v0, v1, v2, v3, rfl⟩ := olist4 hcl
      have t0 : DataW.trod enc Try.prog W 0 (fun _ => true) true n' 2 (([v0, v1, v2, v3].drop 0).take (Try.prog.cellsOf 2)) = ys[0]? := hff 0 _ rfl
      have t1 : DataW.trod enc Try.prog W 0 (fun _ => true) true n' 2 (([v0, v1, v2, v3].drop 1).take (Try.prog.cellsOf 2)) = ys[1]? := hff 1 _ rfl
      have t2 : DataW.trod enc Try.prog W 0 (fun _ => true) true n' 3 (([v0, v1, v2, v3].drop 2).take (Try.prog.cellsOf 3)) = ys[2]? := hff 2 _ rfl
      have t3 : DataW.trod enc Try.prog W 0 (fun _ => true) true n' 23 (([v0, v1, v2, v3].drop 3).take (Try.prog.cellsOf 23)) = ys[3]? := hff 3 _ rfl
      rw [cells_i64] at t0 t1
      rw [cells_int] at t2
      rw [cells_bytes] at t3
      obtain ⟨y0, e0⟩ : ∃ y, ys[0]? = some y := ⟨_, List.getElem?_eq_getElem (by rw [hyl]; decide)⟩
      obtain ⟨y1, e1⟩ : ∃ y, ys[1]? = some y := ⟨_, List.getElem?_eq_getElem (by rw [hyl]; decide)⟩
      obtain ⟨y2, e2⟩ : ∃ y, ys[2]? = some y := ⟨_, List.getElem?_eq_getElem (by rw [hyl]; decide)⟩
      obtain ⟨y3, e3⟩ : ∃ y, ys[3]? = some y := ⟨_, List.getElem?_eq_getElem (by rw [hyl]; decide)⟩
      rw [e0] at t0
      rw [e1] at t1
      rw [e2] at t2
      rw [e3] at t3
      obtain ⟨n0, hn0, _, w0⟩ := DataW.trod_int Try.underlying2 (show DataW.trod enc Try.prog W 0 (fun _ => true) true n' 2 [v0] = some y0 from t0)
      obtain ⟨n1, hn1, _, w1⟩ := DataW.trod_int Try.underlying2 (show DataW.trod enc Try.prog W 0 (fun _ => true) true n' 2 [v1] = some y1 from t1)
      obtain ⟨n2', hn2, _, w2⟩ := DataW.trod_int Try.underlying3 (show DataW.trod enc Try.prog W 0 (fun _ => true) true n' 3 [v2] = some y2 from t2)
      obtain ⟨a', l', c', bs', rfl, hr', h1, h2, h3, h4⟩ := bytes_trod (show DataW.trod enc Try.prog W 0 (fun _ => true) true n' 23 [v3] = some y3 from t3)
      simp only [List.cons.injEq, and_true] at hn0 hn1 hn2
      subst hn0 hn1 hn2
      refine ⟨⟨n0, n1, n2', ⟨a', l', c', bs'⟩⟩, fun j u hu => ?_, ⟨hr', h1, h2, h3⟩, ?_⟩
      · have hj4 : j < 4 := by simpa [En.cells] using (List.getElem?_eq_some_iff.1 hu).1
        have := hat j hj4
        rw [Go.Deep.add_add] at this
        rw [this]
        exact hu
      · simp only [Prod.mk.injEq] at hy
        rw [hy.1]
        have hm3 : y3.1 ∈ ys.map (·.1) := List.mem_map.2 ⟨y3, List.mem_of_getElem? e3, rfl⟩
        have b3 := bulk_mem hm3
        simp only [Rows.uptoBulk]
        have h4' : c' + 1 ≤ Rows.uptoBulk y3.1 := h4
        show l' + 1 ≤ _
        omega
    have : Inhabited En := ⟨⟨0, 0, 0, ⟨none, 0, 0, []⟩⟩⟩
    obtain ⟨S, hS⟩ := Go.Deep.choose_lt hE
    have hcl : ∀ k, ((List.range k).map S).flatMap En.cells = (List.range k).flatMap fun i => (S i).cells := fun k => by rw [List.flatMap_map]
    have hlen4 : ∀ k, ((List.range k).flatMap fun i => (S i).cells).length = k * 4 := fun k => by
      induction k with
      | zero => rfl
      | succ k ih => rw [List.range_succ, List.flatMap_append, List.length_append, ih]; simp [En.cells]; omega
    refine ⟨some x, len, cap, (List.range len).map S, rfl, ⟨by rw [hcl, hlen4], fun hn => ?_⟩, by simp, ?_, hl, hm, (fun h => by cases h), ?_⟩
    · have h0 := (hS 0 hn).1 0 _ rfl
      have ha0 : x.add (0 * 4 + 0) = x := by simp [Addr.add]
      rw [ha0] at h0
      obtain ⟨b, off, rfl⟩ := row_add0 x h0
      refine ⟨b, off, rfl, fun j u hu => ?_⟩
      have hat : ∀ k, k ≤ len → ∀ j u, ((List.range k).flatMap fun i => (S i).cells)[j]? = some u → W.cell? ⟨b, off + j, none⟩ = some u := fun k => by
        induction k with
        | zero => intro _ j u hu; simp at hu
        | succ k ih =>
          intro hk j u hu
          rw [List.range_succ, List.flatMap_append] at hu
          by_cases hj : j < k * 4
          · rw [List.getElem?_append_left (by rw [hlen4]; exact hj)] at hu
            exact ih (by omega) j u hu
          · rw [List.getElem?_append_right (by rw [hlen4]; omega), hlen4] at hu
            simp only [List.flatMap_cons, List.flatMap_nil, List.append_nil] at hu
            have hc := (hS k (by omega)).1 (j - k * 4) u hu
            rw [add_plain] at hc
            rw [show off + j = off + (k * 4 + (j - k * 4)) from by omega]
            exact hc
      rw [hcl] at hu
      exact hat len (Nat.le_refl _) j u hu
    · intro s hs
      simp only [List.mem_map, List.mem_range] at hs
      obtain ⟨i, hi, rfl⟩ := hs
      exact (hS i hi).2.1
    · have hb : ∀ k, k ≤ len → bulkE ((List.range k).map S) ≤ Rows.uptoBulkAll ((List.range k).map D) := fun k => by
        induction k with
        | zero => intro _; simp [bulkE, Rows.uptoBulkAll]
        | succ k ih =>
          intro hk
          have h1 := ih (by omega)
          have h2 := (hS k (by omega)).2.2
          rw [List.range_succ, List.map_append, List.map_append, bulk_append]
          simp only [bulkE, List.map_append, List.sum_append, List.map_cons, List.map_nil, List.sum_cons, List.sum_nil, Rows.uptoBulkAll] at h1 ⊢
          omega
      have := hb len (Nat.le_refl _)
      simp only [Rows.uptoBulk]
      omega
set_option maxRecDepth 100000 in
/-- A slice of entries that came in. -/
theorem open_ents {H : Type} {enc : TypeId × Value → H} {W : World} {r : Reach} {b0 : Nat} {v : Value} {d : DataW H} {p : List MemPlace}
    (hv : Value.okWide Try.prog W r b0 22 v) (h : DataW.Trod enc Try.prog W 0 (fun _ => true) true 22 v d p) :
    ∃ a len cap es, v = .slice a len cap ∧ RowN W a 4 len (es.flatMap En.cells) ∧ es.length = len ∧ (∀ o ∈ es, Sl.ok W o.s) ∧ len ≤ cap ∧ cap ≤ maxLen ∧ (a = none → cap = 0) ∧ bulkE es + 1 ≤ Rows.uptoBulk d := by
  obtain ⟨a, len, cap, rfl⟩ := okWide_slice Try.underlying22 hv
  obtain ⟨fuel, hf⟩ := h
  exact ents_trod hf
set_option maxRecDepth 100000 in
/-- How a slice of ints reads. -/
theorem zs_trod {H : Type} {enc : TypeId × Value → H} {W : World} {fuel : Nat} {v : Value} {y : DataW H × List MemPlace}
    (hf : DataW.trod enc Try.prog W 0 (fun _ => true) true fuel 24 [v] = some y) :
    ∃ a len cap zs, v = .slice a len cap ∧ RowN W a 1 len (cellsZ zs) ∧ len ≤ cap ∧ cap ≤ maxLen ∧ (a = none → cap = 0) ∧ cap + 1 ≤ Rows.uptoBulk y.1 := by
  rcases open_ints Try.underlying24 Try.underlying3 (by kernel_rfl) hf with ⟨hcs, hx⟩ | ⟨x, len, cap, zs, hcs, _, hl, hm, hz, hx, hcell, hwz⟩
  · simp only [List.cons.injEq, and_true] at hcs
    subst hcs
    subst hx
    exact ⟨none, 0, 0, [], rfl, RowN.nil _ _ _, Nat.le_refl _, by simp [maxLen], fun _ => rfl, by simp [Rows.uptoBulk]⟩
  · simp only [List.cons.injEq, and_true] at hcs
    subst hcs
    simp only [if_true] at hz
    subst hx
    refine ⟨some x, len, cap, zs.take len, rfl, ⟨by rw [cellsZ_len, List.length_take]; omega, fun hn => ?_⟩, hl, hm, (fun h => by cases h), ?_⟩
    · have h0 := hcell 0 (by omega)
      obtain ⟨b, off, spot⟩ := x
      have hspot : spot = none := by simpa [Addr.add] using World.cell?_spot h0
      subst hspot
      refine ⟨b, off, rfl, fun j u hu => ?_⟩
      have hj : j < len := by
        have := (List.getElem?_eq_some_iff.1 hu).1
        rw [cellsZ_len, List.length_take] at this
        omega
      have hi' := hcell j (by omega)
      rw [add_plain] at hi'
      rw [hi']
      simp [cellsZ, hj, List.getElem?_eq_getElem (show j < zs.length by omega)] at hu
      rw [List.getD_eq_getElem?_getD, List.getElem?_eq_getElem (show j < zs.length by omega)]
      rw [← hu]
      rfl
    · have h1 := bulk_length (H := H) (lits .i64 (zs.take len))
      have h2 := bulk_length (H := H) (lits .i64 (zs.drop len))
      simp only [Rows.uptoBulk]
      simp only [lits, List.length_map, List.length_take, List.length_drop] at h1 h2
      simp only [lits]
      omega
theorem i64_of {n : Int} (h : (Lit.int .i64 n).wf = true) : -9223372036854775808 ≤ n ∧ n ≤ 9223372036854775807 := by
  simpa [Lit.wf, IntKind.min, IntKind.max, IntKind.signed, IntKind.bits] using h
theorem olist2 {α : Type} {l : List α} (h : l.length = 2) : ∃ a b, l = [a, b] := by
  match l, h with
  | [a, b], _ => exact ⟨a, b, rfl⟩
theorem cells_conf : Try.prog.cellsOf 26 = 2 := by kernel_rfl
theorem cells_zs : Try.prog.cellsOf 24 = 1 := by kernel_rfl
theorem cells_bool : Try.prog.cellsOf 4 = 1 := by kernel_rfl
theorem cells_ents : Try.prog.cellsOf 22 = 1 := by kernel_rfl
end Go.Proofs.Ytcejamblndilbaa
