/- Rows of elements of any width; a slice of slices of bytes. -/
import Derived.Test.YtdpajcamgipgkaaBase
namespace Go.Proofs.Ytdpajcamgipgkaa
open Go.RowKit

/-- The slice at a, of n elements of 'size' cells each, holds the cells vs. -/
def RowN (w : World) (a : Option Addr) (size n : Nat) (vs : List Value) : Prop :=
  vs.length = n * size ∧ (0 < n → ∃ b off, a = some ⟨b, off, none⟩ ∧ ∀ (j : Nat) (u : Value), vs[j]? = some u → w.cell? ⟨b, off + j, none⟩ = some u)

theorem add_plain (b off j : Nat) : (⟨b, off, none⟩ : Addr).add j = ⟨b, off + j, none⟩ := by unfold Addr.add; split <;> simp_all

theorem RowN.nil (w : World) (a : Option Addr) (size : Nat) : RowN w a size 0 [] := ⟨by simp, fun h => absurd h (by omega)⟩
theorem RowN.below {w w' : World} {a : Option Addr} {size n : Nat} {vs : List Value} (h : RowN w a size n vs) (hb : Below w.heap.size w w') : RowN w' a size n vs := by
  refine ⟨h.1, fun hn => ?_⟩
  obtain ⟨b, off, ha, hc⟩ := h.2 hn
  exact ⟨b, off, ha, fun j u hu => (hb.cell (p := ⟨b, off + j, none⟩) (World.block_lt_of_cell? w _ (hc j u hu))).trans (hc j u hu)⟩
theorem RowN.alloc {w : World} {a : Option Addr} {size n : Nat} {vs : List Value} (h : RowN w a size n vs) (o : Obj) : RowN (w.alloc o) a size n vs :=
  h.below ((Below.refl _ _).alloc (Nat.le_refl _) _)
theorem RowN.drewN {w : World} {a : Option Addr} {size n : Nat} {vs : List Value} (h : RowN w a size n vs) (k : Nat) : RowN (w.drewN k) a size n vs := h
theorem RowN.grown {w w' : World} {a : Option Addr} {size n : Nat} {vs : List Value} {row : Option Nat} (h : RowN w a size n vs) (hg : w.grownBy w' row) (hd : ∀ b off, a = some ⟨b, off, none⟩ → row ≠ some b) : RowN w' a size n vs := by
  refine ⟨h.1, fun hn => ?_⟩
  obtain ⟨b, off, ha, hc⟩ := h.2 hn
  exact ⟨b, off, ha, fun j u hu => hg.cell (hc j u hu) (fun e => hd b off ha e.symm)⟩
theorem RowN.news {w : World} {a : Option Addr} {size n : Nat} {vs : List Value} (h : RowN w a size n vs) : 0 < n → ∃ ad, a = some ad ∧ ∀ j u, vs[j]? = some u → w.cell? (ad.add j) = some u := by
  intro hn
  obtain ⟨b, off, ha, hc⟩ := h.2 hn
  exact ⟨_, ha, fun j u hu => by rw [add_plain]; exact hc j u hu⟩
/-- The cell at a place. -/
theorem RowN.at {w : World} {a : Option Addr} {size n : Nat} {vs : List Value} (h : RowN w a size n vs) (j : Nat) (hj : j < n * size) :
    ∃ b off, a = some ⟨b, off, none⟩ ∧ w.cell? ⟨b, off + j, none⟩ = some (vs[j]'(by rw [h.1]; exact hj)) := by
  have hn : 0 < n := by
    rcases Nat.eq_zero_or_pos n with h0 | h0
    · subst h0; omega
    · exact h0
  obtain ⟨b, off, ha, hc⟩ := h.2 hn
  exact ⟨b, off, ha, hc j _ (List.getElem?_eq_getElem (by rw [h.1]; exact hj))⟩
theorem RowN.of_block {w : World} {b n size : Nat} {cs : Array Value} {e : TypeId} {fr : Nat × Nat} {vs : List Value} (h : w.heap[b]? = some (.cells cs e fr)) (hl : vs.length = n * size) (hcs : cs.toList.take vs.length = vs) : RowN w (some ⟨b, 0, none⟩) size n vs := by
  refine ⟨hl, fun _ => ⟨b, 0, rfl, fun j u hu => ?_⟩⟩
  have hj : j < vs.length := (List.getElem?_eq_some_iff.1 hu).1
  rw [← hcs, List.getElem?_take, if_pos hj] at hu
  simp only [World.cell?, h, Nat.zero_add]
  simpa using hu
theorem RowN.of_own {w : World} {base : Nat} {e : TypeId} {size : Nat} {ao : Option Addr} {n cap : Nat} {vs : List Value} (h : w.ownsRow base e size (.slice ao n cap) n vs) : RowN w ao size n vs := by
  rcases h.2 with ⟨hv, h0⟩ | ⟨g, cp, cur, hv, _, hg, _, _, _, htake⟩
  · subst h0
    exact ⟨h.1, fun hn => absurd hn (by omega)⟩
  · simp only [Value.slice.injEq, true_and] at hv
    obtain ⟨rfl, rfl⟩ := hv
    exact RowN.of_block hg h.1 (by rw [h.1]; exact htake)
theorem own_cap {w : World} {base : Nat} {e : TypeId} {size : Nat} {ao : Option Addr} {n cap : Nat} {vs : List Value} (h : w.ownsRow base e size (.slice ao n cap) n vs) : n ≤ cap ∧ cap ≤ maxLen ∧ (ao = none → cap = 0) := by
  rcases h.2 with ⟨hv, h0⟩ | ⟨g, cp, cur, hv, _, hg, h1, h2, _⟩
  · simp only [Value.slice.injEq] at hv
    obtain ⟨_, rfl, rfl⟩ := hv
    simp [maxLen]
  · simp only [Value.slice.injEq, true_and] at hv
    obtain ⟨rfl, rfl⟩ := hv
    exact ⟨h1, h2, fun h => by cases h⟩
theorem own_kept {w w' : World} {base : Nat} {e : TypeId} {size : Nat} {ao : Option Addr} {n cap : Nat} {vs : List Value} {row : Option Nat} (h : w.ownsRow base e size (.slice ao n cap) n vs) (hg : w.grownBy w' row) (hne : Value.ownBlock (.slice ao n cap) = none ∨ Value.ownBlock (.slice ao n cap) ≠ row) :
    w'.ownsRow base e size (.slice ao n cap) n vs := World.ownsRow.kept h hg hne
theorem own_below {w w' : World} {base B : Nat} {e : TypeId} {size : Nat} {v : Value} {n : Nat} {vs : List Value} (h : w.ownsRow base e size v n vs) (hb : Below B w w') (hB : w.heap.size ≤ B) : w'.ownsRow base e size v n vs := by
  refine ⟨h.1, ?_⟩
  rcases h.2 with hv | ⟨g, cp, cur, hv, hbg, hg, r⟩
  · exact .inl hv
  · exact .inr ⟨g, cp, cur, hv, hbg, by rw [hb.block g (Nat.lt_of_lt_of_le (Array.getElem?_eq_some_iff.1 hg).1 hB)]; exact hg, r⟩

theorem RowN.new1 (w : World) (v : Value) (e : TypeId) : RowN (w.alloc (.cells #[v] e)) (some ⟨w.heap.size, 0, none⟩) 1 1 [v] := RowN.of_block (heap_alloc_new w _) rfl rfl

/-! ### a slice of slices of bytes -/

theorem info_slice8 : (Try.prog.info? 22).map (fun i => (i.zero, i.size, i.bytes)) = some (some (.slice none 0 0), 1, 24) := by kernel_rfl

/-- 'out = append(out, x)': out the call's own slice of slices. -/
theorem wpList_appendSl {w : World} {ops : Array Oper} {rest : List Oper} {o : Oper} {a : Act} {Q : Exit → Act → World → Prop} (hgd : o.guard = none) (s x : Operand)
    (ho : o.op = .call { callee := .builtin .append, args := #[s, x], argTypes := #[39, 39] })
    (base : Nat) (ao : Option Addr) (n cap : Nat) (vs : List Value) (hs : a.eval s = .slice ao n cap) (hown : w.ownsRow base 22 1 (.slice ao n cap) n vs)
    (ax : Option Addr) (m c : Nat) (xs : List Value) (hx : a.eval x = .slice ax m c) (hrow : RowN w ax 1 m xs) (hnil : ax = none → c = 0) (h1 : ∀ u ∈ xs, u.oneCell' = true) (hbig : n + m ≤ 1000000000000) (hbase : base ≤ w.heap.size) (N : Nat) (hN : n + m = N)
    (h : ∀ ao' cap' w', w'.ownsRow base 22 1 (.slice ao' N cap') N (vs ++ xs) → w.grownBy w' (Value.ownBlock (.slice ao n cap)) →
      (Value.ownBlock (.slice ao' N cap') = Value.ownBlock (.slice ao n cap) ∨ Value.ownBlock (.slice ao' N cap') = some w.heap.size) → wpList Try.prog ops Q rest (a.put o.dst (.slice ao' N cap')) w') : wpList Try.prog ops Q (o :: rest) a w := by
  obtain ⟨i0, hi, hz0, hz1, hz2⟩ := info_parts info_slice8
  exact wpList_append_row hgd s x _ ho base 22 i0 _ 1 24 Try.underlying39 hi hz0 hz1 hz2 rfl (by decide) ao n cap vs hs hown ax m c xs hx hrow.1 hrow.news hnil h1 (by simp only [maxLen]; omega) (by omega) hbase N hN h

structure Sl where
  a : Option Addr
  len : Nat
  cap : Nat
  bs : List UInt8
def Sl.val (s : Sl) : Value := .slice s.a s.len s.cap
def Sl.ok (w : World) (s : Sl) : Prop := Row8 w s.a s.len s.bs ∧ s.len ≤ s.cap ∧ s.cap ≤ maxLen ∧ (s.a = none → s.cap = 0)
theorem Sl.ok.below {w w' : World} {s : Sl} (h : s.ok w) (hb : Below w.heap.size w w') : s.ok w' := ⟨h.1.below hb, h.2⟩

/-- how many bytes these slices hold, and one for each -/
def bulk8 (ss : List Sl) : Nat := (ss.map fun s => s.len + 1).sum
theorem bulk8_nil : bulk8 [] = 0 := rfl
theorem bulk8_cons (s : Sl) (r : List Sl) : bulk8 (s :: r) = s.len + 1 + bulk8 r := by simp [bulk8]

end Go.Proofs.Ytdpajcamgipgkaa
