/- slices.Delete of one letter. -/
import Derived.Test.YtnjbhjgihcgefaaNet1
import Derived.Lib.SliceRun
namespace Go.Proofs.Ytnjbhjgihcgefaa
open Go.RowKit

/-! ### Cells written into a block -/
def writeAt (cur : Array Value) : Nat → List Value → Array Value
  | _, [] => cur
  | o, v :: r => writeAt (cur.setIfInBounds o v) (o + 1) r
theorem writeAt_size (vs : List Value) : ∀ (cur : Array Value) (o : Nat), (writeAt cur o vs).size = cur.size := by
  induction vs with
  | nil => intro cur o; rfl
  | cons v r ih => intro cur o; rw [writeAt, ih, Array.size_setIfInBounds]
theorem writeAt_get (vs : List Value) : ∀ (cur : Array Value) (o j : Nat), o + vs.length ≤ cur.size → (writeAt cur o vs)[j]? = if o ≤ j ∧ j < o + vs.length then vs[j - o]? else cur[j]? := by
  induction vs with
  | nil => intro cur o j _; rw [writeAt, if_neg (by simp)]
  | cons v r ih =>
    intro cur o j h
    simp only [List.length_cons] at h
    rw [writeAt, ih _ _ _ (by rw [Array.size_setIfInBounds]; omega)]
    by_cases h1 : j = o
    · subst h1
      rw [if_neg (by omega), if_pos (by simp), Nat.sub_self, List.getElem?_cons_zero, Array.getElem?_setIfInBounds]
      simp
      omega
    · by_cases h2 : o + 1 ≤ j ∧ j < o + 1 + r.length
      · rw [if_pos h2, if_pos (by simp only [List.length_cons]; omega), show j - o = (j - (o + 1)) + 1 from by omega, List.getElem?_cons_succ]
      · rw [if_neg h2, if_neg (by simp only [List.length_cons]; omega), Array.getElem?_setIfInBounds, if_neg (by omega)]
theorem heap_setCells {g : Nat} {e : TypeId} {fr : Nat × Nat} (vs : List Value) : ∀ (w : World) (o : Nat) (cur : Array Value), w.heap[g]? = some (.cells cur e fr) → (w.setCells g o vs).heap[g]? = some (.cells (writeAt cur o vs) e fr) := by
  induction vs with
  | nil => intro w o cur h; exact h
  | cons v r ih => intro w o cur h; exact ih _ _ _ (set_block h v)
theorem grown_setCells (g : Nat) (vs : List Value) : ∀ (w : World) (o : Nat), w.grownBy (w.setCells g o vs) (some g) := by
  induction vs with
  | nil => intro w o; exact World.grownBy.refl _ _
  | cons v r ih => intro w o; exact grown_step (grown_set w g o v) (ih _ _) (.inl rfl)

theorem take3 (ls : List L3) : ∀ i, (ls.flatMap L3.cells).take (i * 3) = (ls.take i).flatMap L3.cells := by
  induction ls with
  | nil => intro i; simp
  | cons l r ih =>
    intro i
    cases i with
    | zero => simp
    | succ i =>
      rw [List.flatMap_cons, List.take_succ_cons, List.flatMap_cons, show (i + 1) * 3 = l.cells.length + i * 3 from by simp [L3.cells]; omega, List.take_length_add_append, ih]
theorem drop3 (ls : List L3) : ∀ i, (ls.flatMap L3.cells).drop (i * 3) = (ls.drop i).flatMap L3.cells := by
  induction ls with
  | nil => intro i; simp
  | cons l r ih =>
    intro i
    cases i with
    | zero => simp
    | succ i =>
      rw [List.flatMap_cons, List.drop_succ_cons, show (i + 1) * 3 = l.cells.length + i * 3 from by simp [L3.cells]; omega, List.drop_length_add_append, ih]
theorem len3 (ls : List L3) : (ls.flatMap L3.cells).length = ls.length * 3 := by
  induction ls with
  | nil => rfl
  | cons l r ih => rw [List.flatMap_cons, List.length_append, ih, List.length_cons]; simp [L3.cells]; omega

/-- a row of which one element is taken out, and the last place cleared -/
theorem row_erase {w w1 w2 : World} {base g n cap i : Nat} {ls : List L3} {cur : Array Value} (hl : ls.length = n) (hi : i < n) (hb : base ≤ g) (hg : w.heap[g]? = some (.cells cur 30 (0, 0))) (hnc : n ≤ cap) (hcm : cap ≤ maxLen) (hsz : cur.size = cap * 3)
    (ht : cur.toList.take (n * 3) = ls.flatMap L3.cells) (h1 : w1.heap[g]? = (w.setCells g (i * 3) ((ls.drop (i + 1)).flatMap L3.cells)).heap[g]?) (zs : List Value) (hz : zs.length = 3) (h2 : w2.heap[g]? = (w1.setCells g ((n - 1) * 3) zs).heap[g]?) :
    w2.ownsRow base 30 3 (.slice (some ⟨g, 0, none⟩) (n - 1) cap) (n - 1) ((ls.eraseIdx i).flatMap L3.cells) := by
  have hdl : ((ls.drop (i + 1)).flatMap L3.cells).length = (n - (i + 1)) * 3 := by rw [len3, List.length_drop, hl]
  have e1 := h1.trans (heap_setCells _ w (i * 3) cur hg)
  have e2 := h2.trans (heap_setCells zs w1 ((n - 1) * 3) _ e1)
  refine ⟨by rw [len3, List.length_eraseIdx, if_pos (by omega), hl], .inr ⟨g, cap, _, rfl, hb, e2, by omega, hcm, by rw [writeAt_size, writeAt_size, hsz], ?_⟩⟩
  apply List.ext_getElem?
  intro j
  have hcur : ∀ j, j < n * 3 → cur[j]? = (ls.flatMap L3.cells)[j]? := fun j hj => by
    rw [← ht, List.getElem?_take, if_pos hj, Array.getElem?_toList]
  have hera : (ls.eraseIdx i).flatMap L3.cells = (ls.flatMap L3.cells).take (i * 3) ++ (ls.flatMap L3.cells).drop ((i + 1) * 3) := by
    rw [List.eraseIdx_eq_take_drop_succ, List.flatMap_append, take3, drop3]
  have hxl : (ls.flatMap L3.cells).length = n * 3 := by rw [len3, hl]
  rw [List.getElem?_take, Array.getElem?_toList]
  by_cases hj : j < (n - 1) * 3
  · rw [if_pos hj, writeAt_get _ _ _ _ (by rw [writeAt_size, hsz, hz]; omega), if_neg (by omega), writeAt_get _ _ _ _ (by rw [hsz, hdl]; omega), hera]
    by_cases h : i * 3 ≤ j
    · rw [if_pos (by rw [hdl]; omega), List.getElem?_append_right (by rw [List.length_take, hxl]; omega), List.length_take, hxl, drop3, show min (i * 3) (n * 3) = i * 3 from by omega]
    · rw [if_neg (by omega), hcur j (by omega), List.getElem?_append_left (by rw [List.length_take, hxl]; omega), List.getElem?_take, if_pos (by omega)]
  · rw [if_neg hj, List.getElem?_eq_none (by rw [len3, List.length_eraseIdx, if_pos (by omega), hl]; omega)]

/-! ### clear of one element -/
theorem run_clear_one {P : Program} (w : World) (t e ty : TypeId) (z : Value) (ht : P.underlying t = some (.slice e)) (hv : ∀ w, (zeroValue e).run P w = .ok z w) (b o c : Nat)
    (hc : ∀ j, j < z.cells.size → (w.cell? ⟨b, o + j, none⟩).isSome = true) (hf : ∀ j, j < z.cells.size → w.frozen? ⟨b, o + j, none⟩ = false) (h1 : ∀ v ∈ z.cells.toList, v.oneCell' = true) :
    (Builtin.clear_ #[t] ty #[.slice (some ⟨b, o, none⟩) 1 c]).run P w = .ok (.tuple #[]) (w.setCells b o z.cells.toList) := by
  have hzc : (Builtin.zeroCells z.cells 1).toList = z.cells.toList := by
    simp [Builtin.zeroCells]
    apply List.ext_getElem
    · simp
    · intro i h1 h2
      simp at h1
      simp [Nat.mod_eq_of_lt h1, getElem!_pos z.cells i h1]
  have hst := run_storeCells_cells (P := P) b o z.cells.toList 0 w (by simpa using hc) (by simpa using hf) h1
  simp only [Nat.add_zero] at hst
  simp [Builtin.clear_, run_underlying ht, hv, hzc, hst]

theorem letter_zero : ∀ w, (zeroValue 30).run Try.prog w = .ok (.agg #[.int .i64 0, .int .i64 0, .slice none 0 0]) w := fun w => by kernel_rfl

theorem letter_ones : ∀ v ∈ (Value.agg #[.int .i64 0, .int .i64 0, .slice none 0 0]).cells.toList, v.oneCell' = true := by
  intro v hv
  have h : (Value.agg #[.int .i64 0, .int .i64 0, .slice none 0 0]).cells.toList = [.int .i64 0, .int .i64 0, .slice none 0 0] := rfl
  rw [h] at hv
  simp only [List.mem_cons, List.not_mem_nil, or_false] at hv
  rcases hv with rfl | rfl | rfl <;> rfl
theorem letter_three : (Value.agg #[.int .i64 0, .int .i64 0, .slice none 0 0]).cells.size = 3 := rfl

set_option maxRecDepth 100000 in
set_option maxHeartbeats 3200000 in
theorem delete_last (base g i : Nat) (cur : Array Value) (ls : List L3) (w : World) (hbg : base ≤ g) (hg : w.heap[g]? = some (.cells cur 30 (0, 0))) (hcm : i + 1 ≤ maxLen) (hsz : cur.size = (i + 1) * 3) (ht : cur.toList.take ((i + 1) * 3) = ls.flatMap L3.cells) (hl : ls.length = i + 1) (hn : i ≤ 1000000000) :
    Calls Try.prog 23 #[.slice (some ⟨g, 0, none⟩) (i + 1) (i + 1), .int .i64 i, .int .i64 ((i : Int) + 1)] w fun e w' => e = .returned (.slice (some ⟨g, 0, none⟩) i (i + 1)) ∧ w'.ownsRow base 30 3 (.slice (some ⟨g, 0, none⟩) i (i + 1)) i ((ls.eraseIdx i).flatMap L3.cells) ∧ w.grownBy w' (some g) := by
  have i0 : (0 : Int) ≤ (i : Int) := by omega
  have i1 : (i : Int) ≤ (i : Int) + 1 := by omega
  have i4 : ((i : Int) == (i : Int) + 1) = false := by simp; omega
  have i6 : (0 : Int) ≤ (i : Int) + 1 := by omega
  obtain ⟨e0, he, hz0, hz1, hz2⟩ := info_parts info_letter
  have hXt : ∀ j, j < (i + 1) * 3 → (w.drew.cell? ⟨g, j, none⟩).isSome = true ∧ w.drew.frozen? ⟨g, j, none⟩ = false := fun j hj => by
    refine ⟨?_, ?_⟩
    · show (w.cell? ⟨g, j, none⟩).isSome = true
      simp only [World.cell?, hg]
      simp [Array.getElem?_eq_getElem (show j < cur.size by rw [hsz]; exact hj)]
    · show w.frozen? ⟨g, j, none⟩ = false
      simp [World.frozen?, hg]
  have hclr : ∀ ty, (Builtin.clear_ #[52] ty #[.slice (some ⟨g, i * 3, none⟩) 1 1]).run Try.prog (w.drew.setCells g (i * 3) []) = .ok (.tuple #[]) (w.drew.setCells g (i * 3) [.int .i64 0, .int .i64 0, .slice none 0 0]) := fun ty => run_clear_one (P := Try.prog) w.drew 52 30 ty (.agg #[.int .i64 0, .int .i64 0, .slice none 0 0]) Try.underlying52 letter_zero g (i * 3) 1 (fun j hj => (hXt _ (by rw [letter_three] at hj; omega)).1) (fun j hj => (hXt _ (by rw [letter_three] at hj; omega)).2) letter_ones
  have HG := Lib.hid hg
  have HT := Lib.hid ht
  have HSZ := Lib.hid hsz
  have HL := Lib.hid hl
  clear hg ht hsz hl hXt
  go_enter Try.func23, Try.ntmps23
  go_wp2_with fail
  go_region_law (refine step_append_room rfl (.tmp 22) (.tmp 25) 52 rfl 30 e0 3 Try.underlying52 he hz1 g 0 i (i + 1) rfl ⟨g, 0, none⟩ 0 _ [] rfl rfl (fun j u hu => by simp at hu) (fun u hu => by cases hu) (by omega) (fun j hj => by simp at hj) ?_)
  go_wp2_with fail
  go_ret
  have hgr := grown_setCells g [.int .i64 0, .int .i64 0, .slice none 0 0] w.drew (i * 3)
  exact ⟨rfl, row_erase (n := i + 1) (w := w) (w1 := w.drew) HL.out (by omega) hbg HG.out (Nat.le_refl _) hcm HSZ.out HT.out (by rw [List.drop_of_length_le (by rw [HL.out]; exact Nat.le_refl _)]; rfl) [.int .i64 0, .int .i64 0, .slice none 0 0] rfl rfl, ⟨hgr.os, hgr.tape, hgr.output, hgr.size, hgr.block⟩⟩

set_option maxRecDepth 100000 in
set_option maxHeartbeats 3200000 in
theorem delete_any (base : Nat) (ao : Option Addr) (n cap i : Nat) (ls : List L3) (w : World) (hrow : w.ownsRow base 30 3 (.slice ao n cap) n (ls.flatMap L3.cells)) (hl : ls.length = n) (hi : i < n) (hn : n ≤ 1000000000) :
    Calls Try.prog 23 #[.slice ao n cap, .int .i64 i, .int .i64 ((i : Int) + 1)] w fun e w' => e = .returned (.slice ao (n - 1) cap) ∧ w'.ownsRow base 30 3 (.slice ao (n - 1) cap) (n - 1) ((ls.eraseIdx i).flatMap L3.cells) ∧ w.grownBy w' (Value.ownBlock (.slice ao n cap)) := by
  rcases hrow.2 with ⟨_, h0⟩ | ⟨g, cp, cur, hv, hbg, hg, hnc, hcm, hsz, ht⟩
  · omega
  injection hv with h1 h2 h3
  subst h1 h3
  have hcap : cap ≤ 9223372036854775807 := by simpa [maxLen] using hcm
  have i0 : (0 : Int) ≤ (i : Int) := by omega
  have i1 : (i : Int) ≤ (i : Int) + 1 := by omega
  have i2 : (i : Int) + 1 ≤ (n : Int) := by omega
  have i3 : (n : Int) ≤ (cap : Int) := by omega
  have i4 : ((i : Int) == (i : Int) + 1) = false := by simp; omega
  have i5 : (i : Int) ≤ (cap : Int) := by omega
  obtain ⟨m, rfl⟩ : ∃ m, n = i + m + 1 := ⟨n - i - 1, by omega⟩
  have HG := Lib.hid hg
  have HT := Lib.hid ht
  have HSZ := Lib.hid hsz
  have HL := Lib.hid hl
  clear hrow hg ht hsz hl
  have i6 : (0 : Int) ≤ (i : Int) + 1 := by omega
  have i7 : (i : Int) ≤ (i : Int) + (m : Int) := by omega
  obtain ⟨e0, he, hz0, hz1, hz2⟩ := info_parts info_letter
  have hnews : ((ls.drop (i + 1)).flatMap L3.cells).length = m * 3 := by rw [len3, List.length_drop, HL.out]; omega
  have hones : ∀ u ∈ (ls.drop (i + 1)).flatMap L3.cells, u.oneCell' = true := fun u hu => by
    obtain ⟨v, _, hv⟩ := List.mem_flatMap.1 hu
    exact cells_one3 v u hv
  have hat : ∀ j u, ((ls.drop (i + 1)).flatMap L3.cells)[j]? = some u → w.cell? ⟨g, (i + 1) * 3 + j, none⟩ = some u := fun j u hu => by
    have hj : j < m * 3 := by rw [← hnews]; exact (List.getElem?_eq_some_iff.1 hu).1
    rw [← drop3, List.getElem?_drop, ← HT.out, List.getElem?_take, if_pos (by omega), Array.getElem?_toList] at hu
    simp only [World.cell?, HG.out]
    simpa using hu
  have hthere : ∀ j, j < cap * 3 → (w.cell? ⟨g, j, none⟩).isSome = true ∧ w.frozen? ⟨g, j, none⟩ = false := fun j hj => by
    refine ⟨?_, ?_⟩
    · simp only [World.cell?, HG.out]
      simp [Array.getElem?_eq_getElem (show j < cur.size by rw [HSZ.out]; exact hj)]
    · simp [World.frozen?, HG.out]
  have HNEWS := Lib.hid hnews
  have HONES := Lib.hid hones
  have HAT := Lib.hid hat
  have HTHERE := Lib.hid hthere
  clear hnews hones hat hthere
  by_cases hlast : cap = i + 1
  · subst hlast
    obtain rfl : m = 0 := by omega
    exact delete_last base g i cur ls w hbg HG.out hcm HSZ.out HT.out HL.out (by omega)
  · go_enter Try.func23, Try.ntmps23
    go_wp2_with fail
    go_region_law (refine step_append_room rfl (.tmp 22) (.tmp 25) 52 rfl 30 e0 3 Try.underlying52 he hz1 g 0 i cap rfl ⟨g, (i + 1) * 3, none⟩ m _ ((ls.drop (i + 1)).flatMap L3.cells) rfl HNEWS.out (fun j u hu => by rw [add_plain]; exact HAT.out j u hu) HONES.out (by omega) (fun j hj => by rw [HNEWS.out] at hj; rw [Nat.zero_add]; exact HTHERE.out _ (by omega)) ?_)
    obtain ⟨X, hX⟩ : ∃ X, X = w.drew.setCells g (i * 3) ((ls.drop (i + 1)).flatMap L3.cells) := ⟨_, rfl⟩
    rw [← hX]
    have hXg : X.heap[g]? = some (.cells (writeAt cur (i * 3) ((ls.drop (i + 1)).flatMap L3.cells)) 30 (0, 0)) := by
      rw [hX]
      exact heap_setCells _ _ _ cur HG.out
    have hXw : w.grownBy X (some g) := by
      rw [hX]
      have := grown_setCells g ((ls.drop (i + 1)).flatMap L3.cells) w.drew (i * 3)
      exact ⟨this.os, this.tape, this.output, this.size, this.block⟩
    have hXt : ∀ j, j < cap * 3 → (X.cell? ⟨g, j, none⟩).isSome = true ∧ X.frozen? ⟨g, j, none⟩ = false := fun j hj => by
      refine ⟨?_, ?_⟩
      · simp only [World.cell?, hXg]
        simp [Array.getElem?_eq_getElem (show j < (writeAt cur (i * 3) ((ls.drop (i + 1)).flatMap L3.cells)).size by rw [writeAt_size, HSZ.out]; exact hj)]
      · simp [World.frozen?, hXg]
    have HXG := Lib.hid hXg
    have HXW := Lib.hid hXw
    have HXT := Lib.hid hXt
    have j0 : (0 : Int) ≤ (i : Int) + (m : Int) := by omega
    have j1 : (i : Int) + (m : Int) ≤ (i : Int) + (m : Int) + 1 := by omega
    have j2 : (i : Int) + (m : Int) + 1 ≤ (cap : Int) := by omega
    clear hX hXg hXw hXt
    have hclr := fun ty => run_clear_one (P := Try.prog) X 52 30 ty (.agg #[.int .i64 0, .int .i64 0, .slice none 0 0]) Try.underlying52 letter_zero g ((i + m) * 3) (cap - (i + m)) (fun j hj => (HXT.out _ (by rw [letter_three] at hj; omega)).1) (fun j hj => (HXT.out _ (by rw [letter_three] at hj; omega)).2) letter_ones
    go_wp2_with fail
    go_ret
    refine ⟨rfl, row_erase HL.out hi hbg HG.out hnc hcm HSZ.out HT.out (HXG.out.trans (heap_setCells _ w (i * 3) cur HG.out).symm) [.int .i64 0, .int .i64 0, .slice none 0 0] rfl rfl, grown_step HXW.out (grown_setCells g _ X _) (.inl rfl)⟩
end Go.Proofs.Ytnjbhjgihcgefaa
