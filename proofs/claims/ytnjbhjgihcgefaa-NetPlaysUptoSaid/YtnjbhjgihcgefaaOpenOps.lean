/- A slice of ops that came in, opened. -/
import Derived.Test.YtnjbhjgihcgefaaOpen
import Derived.Test.YtnjbhjgihcgefaaDoes2
import Derived.Deep.Fields
import Derived.ChangeSame
import Derived.Laws.Cover2
namespace Go.Proofs.Ytnjbhjgihcgefaa
open Go.ChangeShapes Go.WideShapes Go.ChangeAt Go.RowKit Go.Deep

/-- an op -/
structure OpL where
  kd : Int
  i : Int
  k : Int
  f : Int
  t : Int
  s : Sl
def OpL.cells (o : OpL) : List Value := [.int .i64 o.kd, .int .i64 o.i, .int .i64 o.k, .int .i64 o.f, .int .i64 o.t, o.s.val]
def bulkO (os : List OpL) : Nat := (os.map fun o => o.s.len + 1).sum
theorem bulkO_cons (o : OpL) (r : List OpL) : bulkO (o :: r) = o.s.len + 1 + bulkO r := by simp [bulkO]
theorem bulkO_mem {os : List OpL} {o : OpL} (h : o ∈ os) : o.s.len + 1 ≤ bulkO os := by
  induction os with
  | nil => cases h
  | cons x r ih =>
    rw [bulkO_cons]
    rcases List.mem_cons.1 h with rfl | h
    · omega
    · have := ih h; omega
theorem bulkO_len (os : List OpL) : os.length ≤ bulkO os := by
  induction os with
  | nil => exact Nat.zero_le _
  | cons x r ih => rw [bulkO_cons, List.length_cons]; omega

theorem bulk_mem {H : Type} {l : List (DataW H)} {x : DataW H} (h : x ∈ l) : Rows.uptoBulk x ≤ Rows.uptoBulkAll l := by
  induction l with
  | nil => cases h
  | cons y r ih =>
    simp only [Rows.uptoBulkAll]
    rcases List.mem_cons.1 h with rfl | h
    · omega
    · have := ih h; omega


theorem list6 {α : Type} {l : List α} (h : l.length = 6) : ∃ a b c d e f, l = [a, b, c, d, e, f] := by
  match l, h with
  | [a, b, c, d, e, f], _ => exact ⟨a, b, c, d, e, f, rfl⟩

theorem cells_op : Try.prog.cellsOf 43 = 6 := by kernel_rfl
theorem cells_letter : Try.prog.cellsOf 30 = 3 := by kernel_rfl
theorem cells_int : Try.prog.cellsOf 3 = 1 := by kernel_rfl
theorem cells_bytes : Try.prog.cellsOf 26 = 1 := by kernel_rfl

set_option maxHeartbeats 800000 in
/-- A slice of ops that came in. -/
theorem open_ops {H : Type} {enc : TypeId × Value → H} {W : World} {r : Reach} {b0 : Nat} {v : Value} {d : DataW H} {p : List MemPlace}
    (hv : Value.okWide Try.prog W r b0 37 v) (h : DataW.Trod enc Try.prog W 0 (fun _ => true) true 37 v d p) :
    ∃ a len cap os, v = .slice a len cap ∧ RowN W a 6 len (os.flatMap OpL.cells) ∧ os.length = len ∧ (∀ o ∈ os, Sl.ok W o.s) ∧ len ≤ cap ∧ cap ≤ maxLen ∧ (a = none → cap = 0) ∧ bulkO os + 1 ≤ Rows.uptoBulk d := by
  obtain ⟨a, len, cap, rfl⟩ := okWide_slice Try.underlying37 hv
  obtain ⟨fuel, hf⟩ := h
  rcases open_slice Try.underlying37 hf with ⟨hcs, hx⟩ | ⟨x, l, c, m, nf, D, Pl, hcs, _, hl, hm, hmm, hx, hel⟩
  · simp [Value.cells] at hcs
    obtain ⟨rfl, rfl, rfl⟩ := hcs
    simp only [Prod.mk.injEq] at hx
    obtain ⟨rfl, rfl⟩ := hx
    exact ⟨none, 0, 0, [], rfl, RowN.nil _ _ _, rfl, (fun s hs => by cases hs), Nat.le_refl _, by simp [maxLen], fun _ => rfl, by simp [Rows.uptoBulk, bulkO]⟩
  · simp [Value.cells] at hcs
    obtain ⟨rfl, rfl, rfl⟩ := hcs
    simp only [if_true] at hmm
    simp only [Prod.mk.injEq] at hx
    obtain ⟨rfl, _⟩ := hx
    have hE : ∀ i, i < len → ∃ s : OpL, (∀ j u, s.cells[j]? = some u → W.cell? (x.add (i * 6 + j)) = some u) ∧ s.s.ok W ∧ s.s.len + 1 ≤ Rows.uptoBulk (D i) := fun i hi => by
      obtain ⟨cs', hc, ht⟩ := hel i (by omega)
      rw [cells_op] at hc
      obtain ⟨ys, n', _, hy, _, hyl, hff⟩ := DataW.trod_struct Try.underlying43 ht
      obtain ⟨_, hcl, hat⟩ := World.cells?_some hc
      obtain ⟨v0, v1, v2, v3, v4, v5, rfl⟩ := list6 hcl
      have t0 : DataW.trod enc Try.prog W 0 (fun _ => true) true n' 3 (([v0, v1, v2, v3, v4, v5].drop 0).take (Try.prog.cellsOf 3)) = ys[0]? := hff 0 _ rfl
      have t1 : DataW.trod enc Try.prog W 0 (fun _ => true) true n' 3 (([v0, v1, v2, v3, v4, v5].drop 1).take (Try.prog.cellsOf 3)) = ys[1]? := hff 1 _ rfl
      have t2 : DataW.trod enc Try.prog W 0 (fun _ => true) true n' 3 (([v0, v1, v2, v3, v4, v5].drop 2).take (Try.prog.cellsOf 3)) = ys[2]? := hff 2 _ rfl
      have t3 : DataW.trod enc Try.prog W 0 (fun _ => true) true n' 30 (([v0, v1, v2, v3, v4, v5].drop 3).take (Try.prog.cellsOf 30)) = ys[3]? := hff 3 _ rfl
      rw [cells_int] at t0 t1 t2
      rw [cells_letter] at t3
      obtain ⟨y0, e0⟩ : ∃ y, ys[0]? = some y := ⟨_, List.getElem?_eq_getElem (by rw [hyl]; decide)⟩
      obtain ⟨y1, e1⟩ : ∃ y, ys[1]? = some y := ⟨_, List.getElem?_eq_getElem (by rw [hyl]; decide)⟩
      obtain ⟨y2, e2⟩ : ∃ y, ys[2]? = some y := ⟨_, List.getElem?_eq_getElem (by rw [hyl]; decide)⟩
      obtain ⟨y3, e3⟩ : ∃ y, ys[3]? = some y := ⟨_, List.getElem?_eq_getElem (by rw [hyl]; decide)⟩
      rw [e0] at t0
      rw [e1] at t1
      rw [e2] at t2
      rw [e3] at t3
      obtain ⟨zs, n2, _, hz, _, hzl, hgg⟩ := DataW.trod_struct Try.underlying30 (show DataW.trod enc Try.prog W 0 (fun _ => true) true n' 30 [v3, v4, v5] = some y3 from t3)
      have u0 : DataW.trod enc Try.prog W 0 (fun _ => true) true n2 3 (([v3, v4, v5].drop 0).take (Try.prog.cellsOf 3)) = zs[0]? := hgg 0 _ rfl
      have u1 : DataW.trod enc Try.prog W 0 (fun _ => true) true n2 3 (([v3, v4, v5].drop 1).take (Try.prog.cellsOf 3)) = zs[1]? := hgg 1 _ rfl
      have u2 : DataW.trod enc Try.prog W 0 (fun _ => true) true n2 26 (([v3, v4, v5].drop 2).take (Try.prog.cellsOf 26)) = zs[2]? := hgg 2 _ rfl
      rw [cells_int] at u0 u1
      rw [cells_bytes] at u2
      obtain ⟨z0, g0⟩ : ∃ y, zs[0]? = some y := ⟨_, List.getElem?_eq_getElem (by rw [hzl]; decide)⟩
      obtain ⟨z1, g1⟩ : ∃ y, zs[1]? = some y := ⟨_, List.getElem?_eq_getElem (by rw [hzl]; decide)⟩
      obtain ⟨z2, g2⟩ : ∃ y, zs[2]? = some y := ⟨_, List.getElem?_eq_getElem (by rw [hzl]; decide)⟩
      rw [g0] at u0
      rw [g1] at u1
      rw [g2] at u2
      obtain ⟨n0, hn0, _, w0⟩ := DataW.trod_int Try.underlying3 (show DataW.trod enc Try.prog W 0 (fun _ => true) true n' 3 [v0] = some y0 from t0)
      obtain ⟨n1, hn1, _, w1⟩ := DataW.trod_int Try.underlying3 (show DataW.trod enc Try.prog W 0 (fun _ => true) true n' 3 [v1] = some y1 from t1)
      obtain ⟨n2', hn2, _, w2⟩ := DataW.trod_int Try.underlying3 (show DataW.trod enc Try.prog W 0 (fun _ => true) true n' 3 [v2] = some y2 from t2)
      obtain ⟨n3, hn3, _, w3⟩ := DataW.trod_int Try.underlying3 (show DataW.trod enc Try.prog W 0 (fun _ => true) true n2 3 [v3] = some z0 from u0)
      obtain ⟨n4, hn4, _, w4⟩ := DataW.trod_int Try.underlying3 (show DataW.trod enc Try.prog W 0 (fun _ => true) true n2 3 [v4] = some z1 from u1)
      obtain ⟨a', l', c', bs', rfl, hr', h1, h2, h3, h4⟩ := bytes_trod (show DataW.trod enc Try.prog W 0 (fun _ => true) true n2 26 [v5] = some z2 from u2)
      simp only [List.cons.injEq, and_true] at hn0 hn1 hn2 hn3 hn4
      subst hn0 hn1 hn2 hn3 hn4
      refine ⟨⟨n0, n1, n2', n3, n4, ⟨a', l', c', bs'⟩⟩, fun j u hu => ?_, ⟨hr', h1, h2, h3⟩, ?_⟩
      · have hj6 : j < 6 := by simpa [OpL.cells] using (List.getElem?_eq_some_iff.1 hu).1
        have := hat j hj6
        rw [Go.Deep.add_add] at this
        rw [this]
        exact hu
      · simp only [Prod.mk.injEq] at hy
        rw [hy.1]
        have hm3 : y3.1 ∈ ys.map (·.1) := List.mem_map.2 ⟨y3, List.mem_of_getElem? e3, rfl⟩
        have b3 := bulk_mem hm3
        have hzz : z2.1 ∈ zs.map (·.1) := List.mem_map.2 ⟨z2, List.mem_of_getElem? g2, rfl⟩
        have b2 := bulk_mem hzz
        have hy3 : y3.1 = .agg (zs.map (·.1)) := by rw [hz]
        simp only [Rows.uptoBulk]
        rw [hy3] at b3
        simp only [Rows.uptoBulk] at b3
        have h4' : c' + 1 ≤ Rows.uptoBulk z2.1 := h4
        show l' + 1 ≤ _
        omega
    have : Inhabited OpL := ⟨⟨0, 0, 0, 0, 0, ⟨none, 0, 0, []⟩⟩⟩
    obtain ⟨S, hS⟩ := Go.Deep.choose_lt hE
    have hcl : ∀ k, ((List.range k).map S).flatMap OpL.cells = (List.range k).flatMap fun i => (S i).cells := fun k => by rw [List.flatMap_map]
    have hlen5 : ∀ k, ((List.range k).flatMap fun i => (S i).cells).length = k * 6 := fun k => by
      induction k with
      | zero => rfl
      | succ k ih => rw [List.range_succ, List.flatMap_append, List.length_append, ih]; simp [OpL.cells]; omega
    refine ⟨some x, len, cap, (List.range len).map S, rfl, ⟨by rw [hcl, hlen5], fun hn => ?_⟩, by simp, ?_, hl, hm, (fun h => by cases h), ?_⟩
    · have h0 := (hS 0 hn).1 0 _ rfl
      have ha0 : x.add (0 * 6 + 0) = x := by simp [Addr.add]
      rw [ha0] at h0
      obtain ⟨b, off, rfl⟩ := row_add0 x h0
      refine ⟨b, off, rfl, fun j u hu => ?_⟩
      have hat : ∀ k, k ≤ len → ∀ j u, ((List.range k).flatMap fun i => (S i).cells)[j]? = some u → W.cell? ⟨b, off + j, none⟩ = some u := fun k => by
        induction k with
        | zero => intro _ j u hu; simp at hu
        | succ k ih =>
          intro hk j u hu
          rw [List.range_succ, List.flatMap_append] at hu
          by_cases hj : j < k * 6
          · rw [List.getElem?_append_left (by rw [hlen5]; exact hj)] at hu
            exact ih (by omega) j u hu
          · rw [List.getElem?_append_right (by rw [hlen5]; omega), hlen5] at hu
            simp only [List.flatMap_cons, List.flatMap_nil, List.append_nil] at hu
            have hc := (hS k (by omega)).1 (j - k * 6) u hu
            rw [add_plain] at hc
            rw [show off + j = off + (k * 6 + (j - k * 6)) from by omega]
            exact hc
      rw [hcl] at hu
      exact hat len (Nat.le_refl _) j u hu
    · intro s hs
      simp only [List.mem_map, List.mem_range] at hs
      obtain ⟨i, hi, rfl⟩ := hs
      exact (hS i hi).2.1
    · have hb : ∀ k, k ≤ len → bulkO ((List.range k).map S) ≤ Rows.uptoBulkAll ((List.range k).map D) := fun k => by
        induction k with
        | zero => intro _; simp [bulkO, Rows.uptoBulkAll]
        | succ k ih =>
          intro hk
          have h1 := ih (by omega)
          have h2 := (hS k (by omega)).2.2
          rw [List.range_succ, List.map_append, List.map_append, bulk_append]
          simp only [bulkO, List.map_append, List.sum_append, List.map_cons, List.map_nil, List.sum_cons, List.sum_nil, Rows.uptoBulkAll] at h1 ⊢
          omega
      have := hb len (Nat.le_refl _)
      simp only [Rows.uptoBulk]
      omega

end Go.Proofs.Ytnjbhjgihcgefaa
