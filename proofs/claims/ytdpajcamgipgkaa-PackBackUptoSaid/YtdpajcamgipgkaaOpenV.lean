/- A slice of values that came in, opened. -/
import Derived.Test.YtdpajcamgipgkaaOpen
import Derived.Test.YtdpajcamgipgkaaPutMath
import Derived.Deep.Fields
import Derived.ChangeSame
import Derived.Laws.Cover2
namespace Go.Proofs.Ytdpajcamgipgkaa
open Go.ChangeShapes Go.WideShapes Go.ChangeAt Go.RowKit Go.Deep

section
variable {H : Type} {enc : TypeId × Value → H} {P : Program} {w : World} {base : Nat} {spare : Nat → Bool} {held : Bool}
theorem slice_fields {t e : TypeId} {fs : Array Field} {fuel : Nat} {cs : List Value} {x : DataW H × List MemPlace} (ht : P.underlying t = some (.slice e)) (he : P.underlying e = some (.struct fs))
    (hone : oneCellFields P fs = true) (hC : P.cellsOf e = fs.size) (h : DataW.trod enc P w base spare held fuel t cs = some x) :
    (cs = [.slice none 0 0] ∧ x = (.nil, [])) ∨
    ∃ (a : Addr) (len cap m : Nat) (D : Nat → DataW H), cs = [.slice (some a) len cap] ∧ len ≤ cap ∧ cap ≤ maxLen ∧ m = (if spare a.block then cap else len) ∧
      x.1 = .slice ((List.range len).map D) ((List.range (m - len)).map fun j => D (len + j)) ∧
      ∀ i, i < m → ∃ (ys : List (DataW H × List MemPlace)) (n : Nat), D i = .agg (ys.map (·.1)) ∧ ys.length = fs.size ∧
        ∀ (j : Nat) (f : Field), fs[j]? = some f → ∃ (v : Value) (y : DataW H × List MemPlace), w.cell? (a.add (i * fs.size + j)) = some v ∧ ys[j]? = some y ∧ DataW.trod enc P w base spare held n f.type [v] = some y := by
  rcases open_slice ht h with h0 | ⟨a, len, cap, m, n, D, _, hcs, _, hl, hm, hmm, hx, hi⟩
  · exact .inl h0
  · refine .inr ⟨a, len, cap, m, D, hcs, hl, hm, hmm, by rw [hx], fun i him => ?_⟩
    obtain ⟨cs', hc, ht'⟩ := hi i him
    rw [hC] at hc
    obtain ⟨ys, n', _, hy, _, hyl, hf⟩ := DataW.trod_struct he ht'
    obtain ⟨_, hcl, hat⟩ := World.cells?_some hc
    simp only [Prod.mk.injEq] at hy
    refine ⟨ys, n', hy.1, hyl, fun j f hj => ?_⟩
    obtain ⟨ho, hk⟩ := hone_of hone j f hj
    have hjl : j < fs.size := (Array.getElem?_eq_some_iff.1 hj).1
    have hcell := hat j hjl
    have hv : cs'[j]? = some (cs'[j]'(by omega)) := List.getElem?_eq_getElem (by omega)
    have h1 := hf j f hj
    rw [ho, hk] at h1
    have hone' : (cs'.drop j).take 1 = [cs'[j]'(by omega)] := by
      rw [List.drop_eq_getElem_cons (by omega)]
      rfl
    rw [hone'] at h1
    have hys : ys[j]? = some (ys[j]'(by omega)) := List.getElem?_eq_getElem (by omega)
    refine ⟨_, _, ?_, hys, h1.trans hys⟩
    rw [← Go.Deep.add_add, hcell, hv]
end

theorem bulk_mem {H : Type} {l : List (DataW H)} {x : DataW H} (h : x ∈ l) : Rows.uptoBulk x ≤ Rows.uptoBulkAll l := by
  induction l with
  | nil => cases h
  | cons y r ih =>
    simp only [Rows.uptoBulkAll]
    rcases List.mem_cons.1 h with rfl | h
    · omega
    · have := ih h; omega

theorem i64_of {n : Int} (h : (Lit.int .i64 n).wf = true) : -9223372036854775808 ≤ n ∧ n ≤ 9223372036854775807 := by
  simpa [Lit.wf, IntKind.min, IntKind.max, IntKind.signed, IntKind.bits] using h
theorem f64_of {n : Nat} (h : (Lit.float .f64 n).wf = true) : n < 2 ^ 64 := by
  simpa [Lit.wf] using h

theorem float_trod {H : Type} {enc : TypeId × Value → H} {W : World} {fuel : Nat} {v : Value} {x : DataW H × List MemPlace}
    (hf : DataW.trod enc Try.prog W 0 (fun _ => true) true fuel 61 [v] = some x) : ∃ b : Nat, v = .float .f64 b ∧ b < 2 ^ 64 := by
  cases fuel with
  | zero => simp [DataW.trod] at hf
  | succ n =>
    unfold DataW.trod at hf
    rw [Try.underlying61] at hf
    split at hf
    all_goals rename_i h1 h2
    all_goals first
      | (simp at h1; done)
      | (simp at h2; done)
      | (simp at hf; done)
      | (simp only [Option.some.injEq, TypeDesc.float.injEq] at h1
         subst h1
         simp only [List.cons.injEq, and_true] at h2
         subst h2
         split at hf
         · rename_i hw
           obtain ⟨rfl, hw⟩ := hw
           exact ⟨_, rfl, f64_of hw⟩
         · simp at hf)

set_option maxHeartbeats 800000 in
/-- A slice of values that came in. -/
theorem open_vals {H : Type} {enc : TypeId × Value → H} {W : World} {r : Reach} {b0 : Nat} {v : Value} {d : DataW H} {p : List MemPlace}
    (hv : Value.okWide Try.prog W r b0 48 v) (h : DataW.Trod enc Try.prog W 0 (fun _ => true) true 48 v d p) :
    ∃ a len cap vs, v = .slice a len cap ∧ RowN W a 5 len (vs.flatMap Vl.cells) ∧ vs.length = len ∧ (∀ v ∈ vs, Vl.ok W v) ∧ len ≤ cap ∧ cap ≤ maxLen ∧ (a = none → cap = 0) ∧ bulkV vs + 1 ≤ Rows.uptoBulk d := by
  obtain ⟨a, len, cap, rfl⟩ := okWide_slice Try.underlying48 hv
  obtain ⟨fuel, hf⟩ := h
  rcases slice_fields Try.underlying48 Try.underlying63 (by kernel_rfl) (by kernel_rfl) hf with ⟨hcs, hx⟩ | ⟨x, l, c, m, D, hcs, hl, hm, hmm, hx, hel⟩
  · simp [Value.cells] at hcs
    obtain ⟨rfl, rfl, rfl⟩ := hcs
    simp only [Prod.mk.injEq] at hx
    obtain ⟨rfl, rfl⟩ := hx
    exact ⟨none, 0, 0, [], rfl, RowN.nil _ _ _, rfl, (fun s hs => by cases hs), Nat.le_refl _, by simp [maxLen], fun _ => rfl, by simp [Rows.uptoBulk, bulkV]⟩
  · simp [Value.cells] at hcs
    obtain ⟨rfl, rfl, rfl⟩ := hcs
    simp only [if_true] at hmm
    simp only at hx
    subst hx
    have hE : ∀ i, i < len → ∃ s : Vl, (∀ j u, s.cells[j]? = some u → W.cell? (x.add (i * 5 + j)) = some u) ∧ s.ok W ∧ s.s.len + 1 ≤ Rows.uptoBulk (D i) := fun i hi => by
      obtain ⟨ys, n, hD, hyl, hj⟩ := hel i (by omega)
      obtain ⟨v0, y0, c0, e0, t0⟩ := hj 0 _ rfl
      obtain ⟨v1, y1, c1, e1, t1⟩ := hj 1 _ rfl
      obtain ⟨v2, y2, c2, e2, t2⟩ := hj 2 _ rfl
      obtain ⟨v3, y3, c3, e3, t3⟩ := hj 3 _ rfl
      obtain ⟨v4, y4, c4, e4, t4⟩ := hj 4 _ rfl
      obtain ⟨n0, hn0, _, w0⟩ := DataW.trod_int Try.underlying3 t0
      obtain ⟨n1, hn1, _, w1⟩ := DataW.trod_int Try.underlying2 t1
      obtain ⟨n2, rfl, w2⟩ := float_trod t2
      obtain ⟨a', l', c', bs', rfl, hr', h1, h2, h3, h4⟩ := bytes_trod t3
      obtain ⟨n4, hn4, _⟩ := DataW.trod_bool Try.underlying4 t4
      simp only [List.cons.injEq, and_true] at hn0 hn1 hn4
      subst hn0 hn1 hn4
      refine ⟨⟨n0, n1, n2, ⟨a', l', c', bs'⟩, n4⟩, fun j u hu => ?_, ⟨⟨hr', h1, h2, h3⟩, w2, i64_of w1, i64_of w0⟩, ?_⟩
      · have hj5 : j < 5 := by simpa [Vl.cells] using (List.getElem?_eq_some_iff.1 hu).1
        have : j = 0 ∨ j = 1 ∨ j = 2 ∨ j = 3 ∨ j = 4 := by omega
        rcases this with rfl | rfl | rfl | rfl | rfl <;> (simp [Vl.cells, Sl.val] at hu; subst hu)
        · exact c0
        · exact c1
        · exact c2
        · exact c3
        · exact c4
      · rw [hD]
        have hm3 : y3.1 ∈ ys.map (·.1) := List.mem_map.2 ⟨y3, List.mem_of_getElem? e3, rfl⟩
        have := bulk_mem hm3
        simp only [Rows.uptoBulk]
        have h4' : c' + 1 ≤ Rows.uptoBulk y3.1 := h4
        show l' + 1 ≤ _
        omega
    have : Inhabited Vl := ⟨⟨0, 0, 0, ⟨none, 0, 0, []⟩, false⟩⟩
    obtain ⟨S, hS⟩ := Go.Deep.choose_lt hE
    have hcl : ∀ k, ((List.range k).map S).flatMap Vl.cells = (List.range k).flatMap fun i => (S i).cells := fun k => by rw [List.flatMap_map]
    have hlen5 : ∀ k, ((List.range k).flatMap fun i => (S i).cells).length = k * 5 := fun k => by
      induction k with
      | zero => rfl
      | succ k ih => rw [List.range_succ, List.flatMap_append, List.length_append, ih]; simp [Vl.cells]; omega
    refine ⟨some x, len, cap, (List.range len).map S, rfl, ⟨by rw [hcl, hlen5], fun hn => ?_⟩, by simp, ?_, hl, hm, (fun h => by cases h), ?_⟩
    · have h0 := (hS 0 hn).1 0 _ rfl
      have ha0 : x.add (0 * 5 + 0) = x := by simp [Addr.add]
      rw [ha0] at h0
      obtain ⟨b, off, rfl⟩ := row_add0 x h0
      refine ⟨b, off, rfl, fun j u hu => ?_⟩
      have hat : ∀ k, k ≤ len → ∀ j u, ((List.range k).flatMap fun i => (S i).cells)[j]? = some u → W.cell? ⟨b, off + j, none⟩ = some u := fun k => by
        induction k with
        | zero => intro _ j u hu; simp at hu
        | succ k ih =>
          intro hk j u hu
          rw [List.range_succ, List.flatMap_append] at hu
          by_cases hj : j < k * 5
          · rw [List.getElem?_append_left (by rw [hlen5]; exact hj)] at hu
            exact ih (by omega) j u hu
          · rw [List.getElem?_append_right (by rw [hlen5]; omega), hlen5] at hu
            simp only [List.flatMap_cons, List.flatMap_nil, List.append_nil] at hu
            have hc := (hS k (by omega)).1 (j - k * 5) u hu
            rw [add_plain] at hc
            rw [show off + j = off + (k * 5 + (j - k * 5)) from by omega]
            exact hc
      rw [hcl] at hu
      exact hat len (Nat.le_refl _) j u hu
    · intro s hs
      simp only [List.mem_map, List.mem_range] at hs
      obtain ⟨i, hi, rfl⟩ := hs
      exact (hS i hi).2.1
    · have hb : ∀ k, k ≤ len → bulkV ((List.range k).map S) ≤ Rows.uptoBulkAll ((List.range k).map D) := fun k => by
        induction k with
        | zero => intro _; simp [bulkV, Rows.uptoBulkAll]
        | succ k ih =>
          intro hk
          have h1 := ih (by omega)
          have h2 := (hS k (by omega)).2.2
          rw [List.range_succ, List.map_append, List.map_append, bulk_append]
          simp only [bulkV, List.map_append, List.sum_append, List.map_cons, List.map_nil, List.sum_cons, List.sum_nil, Rows.uptoBulkAll] at h1 ⊢
          omega
      have := hb len (Nat.le_refl _)
      simp only [Rows.uptoBulk]
      omega

end Go.Proofs.Ytdpajcamgipgkaa
