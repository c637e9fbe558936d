/- The law's 'of': values as the document's. -/
import Derived.Test.YtdpajcamgipgkaaRefPut
namespace Go.Proofs.Ytdpajcamgipgkaa
open Go.RowKit

theorem info_refval : (Try.prog.info? 81).map (fun i => (i.zero, i.size, i.bytes)) = some (some (.agg #[.int .i64 0, .int .i64 0, .float .f64 0, .slice none 0 0, .bool false]), 5, 56) := by kernel_rfl
theorem info_val : (Try.prog.info? 63).map (fun i => (i.zero, i.size, i.bytes)) = some (some (.agg #[.int .i64 0, .int .i64 0, .float .f64 0, .slice none 0 0, .bool false]), 5, 56) := by kernel_rfl

/-- 'out = append(out, x)': out the call's own slice of the document's values. -/
theorem wpList_appendRef {w : World} {ops : Array Oper} {rest : List Oper} {o : Oper} {a : Act} {Q : Exit → Act → World → Prop} (hgd : o.guard = none) (s x : Operand)
    (ho : o.op = .call { callee := .builtin .append, args := #[s, x], argTypes := #[51, 51] })
    (base : Nat) (ao : Option Addr) (n cap : Nat) (vs : List Value) (hs : a.eval s = .slice ao n cap) (hown : w.ownsRow base 81 5 (.slice ao n cap) n vs)
    (ax : Option Addr) (m c : Nat) (xs : List Value) (hx : a.eval x = .slice ax m c) (hrow : RowN w ax 5 m xs) (hnil : ax = none → c = 0) (h1 : ∀ u ∈ xs, u.oneCell' = true) (hbig : n + m ≤ 1000000000000) (hbase : base ≤ w.heap.size) (N : Nat) (hN : n + m = N)
    (h : ∀ ao' cap' w', w'.ownsRow base 81 5 (.slice ao' N cap') N (vs ++ xs) → w.grownBy w' (Value.ownBlock (.slice ao n cap)) →
      (Value.ownBlock (.slice ao' N cap') = Value.ownBlock (.slice ao n cap) ∨ Value.ownBlock (.slice ao' N cap') = some w.heap.size) → wpList Try.prog ops Q rest (a.put o.dst (.slice ao' N cap')) w') : wpList Try.prog ops Q (o :: rest) a w := by
  obtain ⟨i0, hi, hz0, hz1, hz2⟩ := info_parts info_refval
  exact wpList_append_row hgd s x _ ho base 81 i0 _ 5 56 Try.underlying51 hi hz0 hz1 hz2 rfl (by decide) ao n cap vs hs hown ax m c xs hx hrow.1 hrow.news hnil h1 (by simp only [maxLen]; omega) (by omega) hbase N hN h
theorem wpList_appendVal {w : World} {ops : Array Oper} {rest : List Oper} {o : Oper} {a : Act} {Q : Exit → Act → World → Prop} (hgd : o.guard = none) (s x : Operand)
    (ho : o.op = .call { callee := .builtin .append, args := #[s, x], argTypes := #[48, 48] })
    (base : Nat) (ao : Option Addr) (n cap : Nat) (vs : List Value) (hs : a.eval s = .slice ao n cap) (hown : w.ownsRow base 63 5 (.slice ao n cap) n vs)
    (ax : Option Addr) (m c : Nat) (xs : List Value) (hx : a.eval x = .slice ax m c) (hrow : RowN w ax 5 m xs) (hnil : ax = none → c = 0) (h1 : ∀ u ∈ xs, u.oneCell' = true) (hbig : n + m ≤ 1000000000000) (hbase : base ≤ w.heap.size) (N : Nat) (hN : n + m = N)
    (h : ∀ ao' cap' w', w'.ownsRow base 63 5 (.slice ao' N cap') N (vs ++ xs) → w.grownBy w' (Value.ownBlock (.slice ao n cap)) →
      (Value.ownBlock (.slice ao' N cap') = Value.ownBlock (.slice ao n cap) ∨ Value.ownBlock (.slice ao' N cap') = some w.heap.size) → wpList Try.prog ops Q rest (a.put o.dst (.slice ao' N cap')) w') : wpList Try.prog ops Q (o :: rest) a w := by
  obtain ⟨i0, hi, hz0, hz1, hz2⟩ := info_parts info_val
  exact wpList_append_row hgd s x _ ho base 63 i0 _ 5 56 Try.underlying48 hi hz0 hz1 hz2 rfl (by decide) ao n cap vs hs hown ax m c xs hx hrow.1 hrow.news hnil h1 (by simp only [maxLen]; omega) (by omega) hbase N hN h

theorem cells_one5 (v : Vl) : ∀ u ∈ v.cells, u.oneCell' = true := by
  intro u hu
  simp only [Vl.cells, List.mem_cons, List.not_mem_nil, or_false] at hu
  rcases hu with rfl | rfl | rfl | rfl | rfl <;> rfl
theorem cells_all5 (vs : List Vl) : ∀ u ∈ vs.flatMap Vl.cells, u.oneCell' = true := by
  intro u hu
  obtain ⟨v, _, hv⟩ := List.mem_flatMap.1 hu
  exact cells_one5 v u hv
theorem cells_len5 (vs : List Vl) : (vs.flatMap Vl.cells).length = vs.length * 5 := by
  induction vs with
  | nil => rfl
  | cons v r ih => rw [List.flatMap_cons, List.length_append, ih, List.length_cons]; simp [Vl.cells]; omega
theorem RowN.new2 (w : World) (o : Obj) (cs : Array Value) (e : TypeId) (size n H : Nat) (vs : List Value) (hl : vs.length = n * size) (hcs : cs.toList.take vs.length = vs) (hH : H = w.heap.size + 1) : RowN ((w.alloc o).alloc (.cells cs e)) (some ⟨H, 0, none⟩) size n vs := by
  have := RowN.of_block (size := size) (n := n) (heap_alloc_new (w.alloc o) (.cells cs e)) hl hcs
  rw [World.size_alloc, ← hH] at this
  exact this

/-- It returns these values, in memory of its own. -/
def RetVals (T : TypeId) (w : World) (vs : List Vl) (e : Ending) (w' : World) : Prop :=
  ∃ ao cap, e = .returned (.slice ao vs.length cap) ∧ w'.ownsRow w.heap.size T 5 (.slice ao vs.length cap) vs.length (vs.flatMap Vl.cells) ∧ Below w.heap.size w w'

set_option maxRecDepth 100000 in
set_option maxHeartbeats 3200000 in
theorem of_any (a : Option Addr) (len cap : Nat) (vs : List Vl) (w : World) (hr : RowN w a 5 len (vs.flatMap Vl.cells)) (hs : vs.length = len) (hlen : len ≤ 4294967296) :
    Calls Try.prog 35 #[.slice a len cap] w (RetVals 81 w vs) := by
  have hstf := store_float
  have HR := Lib.hid hr
  have HS := Lib.hid hs
  clear hr hs
  go_enter Try.func35, Try.ntmps35
  go_wp2_with fail
  go_loopw [3, 9] (fun v i wr => ∃ (k : Nat) (ak : Option Addr) (ck : Nat), k ≤ len ∧ i = .int .i64 k ∧ v = .slice ak k ck ∧ wr.ownsRow w.heap.size 81 5 (.slice ak k ck) k ((vs.take k).flatMap Vl.cells) ∧ Below w.heap.size w wr) (fun _ i _ => len - (intOf i).toNat)
  case atStart => exact ⟨0, _, 0, by omega, rfl, rfl, World.ownsRow_lit w #[] 0 (Nat.le_refl _) (by decide) rfl, (Below.refl _ _).alloc (Nat.le_refl _) _⟩
  case round =>
    obtain ⟨k, ak, ck, hk, rfl, rfl, hoa, hbw⟩ := hrel
    have hsz := hbw.size
    by_cases hlt : k < len
    · obtain ⟨v, hv⟩ : ∃ v, vs[k]? = some v := ⟨_, List.getElem?_eq_getElem (by rw [HS.out]; exact hlt)⟩
      obtain ⟨b, off, rfl, hc0, hc1, hc2, hc3, hc4⟩ := vals_at (HR.out.below hbw) HS.out k hlt v hv
      have htk : vs.take (k + 1) = vs.take k ++ [v] := by rw [List.take_add_one, hv]; rfl
      have HT := Lib.hid htk
      clear htk hv
      obtain ⟨kind, n, x, s, on⟩ := v
      have HBW := Lib.hid hbw
      have hobx2 : ∀ o o2, ((wr.alloc o).alloc o2).ownsRow w.heap.size 81 5 (.slice ak k ck) k ((vs.take k).flatMap Vl.cells) := fun o o2 => (hoa.alloc o).alloc o2
      have HOX2 := Lib.hid hobx2
      have HOA := Lib.hid hoa
      clear hbw hobx2 hoa
      simp only [Sl.val] at hc0 hc1 hc2 hc3 hc4
      have hkl : (k : Int) < (len : Int) := by omega
      go_wp2_with (at_builtin; refine wpList_appendRef rfl (.tmp 13) (.tmp 25) rfl w.heap.size ak k ck ((vs.take k).flatMap Vl.cells) rfl (HOX2.out _ _) (some ⟨wr.heap.size + 1, 0, none⟩) 1 1 (Vl.cells ⟨kind, n, x, s, on⟩) rfl (RowN.new2 _ _ _ _ 5 1 _ _ rfl rfl rfl) (fun h => by cases h) (cells_one5 _) (by omega) (by simp; omega) (k + 1) rfl ?_; intro ao' cap' w1 hown1 hg1 hat1)
      go_roundw
      case rel =>
        refine ⟨k + 1, ao', cap', by omega, by go_num, rfl, ?_, ((HBW.out.alloc hsz _).alloc (by rw [World.size_alloc]; omega) _).grown hg1 (by rw [World.size_alloc, World.size_alloc]; omega) (fun g hg => (World.ownsRow.lt HOA.out g hg).1)⟩
        rw [HT.out, List.flatMap_append]
        simpa using hown1
      case measure => simp [intOf]; omega
    · have hke : k = len := by omega
      subst hke
      have ht : vs.take k = vs := List.take_of_length_le (by rw [HS.out]; exact Nat.le_refl _)
      rw [ht] at hoa
      have HOA := Lib.hid hoa
      clear hoa
      go_wp2_with fail
      go_ret
      have hs := HS.out
      subst hs
      exact ⟨ak, ck, rfl, HOA.out, hbw⟩
end Go.Proofs.Ytdpajcamgipgkaa
