/- Double, Swap. -/
import Derived.Test.YtnjbhjgihcgefaaTake
namespace Go.Proofs.Ytnjbhjgihcgefaa
open Go.RowKit

theorem own_nil8 {w : World} {base : Nat} {a : Option Addr} {n c : Nat} {bs : List UInt8} (h : Own8 w base a n c bs) : a = none → n = 0 ∧ c = 0 := fun e => by
  have h1 := h.nocap e
  have h2 := h.cap.1
  omega

set_option maxRecDepth 100000 in
set_option maxHeartbeats 3200000 in
theorem double_ok (N : Nat) (most : Int) (ls : List L3) (ao : Option Addr) (n cap i : Nat) (l : L3) (w : World) (h : NetAt w N most ls ao n cap) (hi : i < n) (hl : ls[i]? = some l) (hf : (n : Int) ≠ most) (hn : n ≤ 1000000000) (hb : l.s.len ≤ 140737488355328) :
    Calls Try.prog 19 #[.pointer (some ⟨N, 0, none⟩), .int .i64 i] w fun e w' => e = .returned (.bool true) ∧ ∃ s ao' cap', s.bs = l.s.bs ∧ s.len = l.s.len ∧ NetAt w' N most (ls ++ [⟨l.f, l.t, s⟩]) ao' (n + 1) cap' ∧ NStep w w' N ao ao' := by
  have ht := there_any N most ls ao n cap i w h
  rw [decide_eq_true (p := (0 : Int) ≤ (i : Int) ∧ (i : Int) < (n : Int)) ⟨by omega, by omega⟩] at ht
  obtain ⟨b, off, hao, hc0, hc1, hc2⟩ := letters_at (RowN.of_own h.row) h.len i hi l hl
  have hol := h.own l (List.mem_of_getElem? hl)
  have hs := send_any N most ls ao n cap l.f l.t l.s.a l.s.len l.s.cap l.s.bs w h hf hn hol.row (own_nil8 hol) hb
  obtain ⟨x0, x1, y0, y1⟩ := two_cells h.cell
  have hin : (i : Int) < (n : Int) := by omega
  have hi0 : (0 : Int) ≤ (i : Int) := by omega
  have HT := Lib.hid ht
  have HSD := Lib.hid hs
  clear h ht hl hol hs hf
  subst hao
  go_enter Try.func19, Try.ntmps19
  go_wp2_with fail
  refine HT.out.mono ?_
  rintro e w1 ⟨rfl, rfl⟩
  go_wp2_with fail
  refine HSD.out.mono ?_
  rintro e w1 ⟨rfl, hx⟩
  go_wp2_with fail
  go_ret
  exact ⟨rfl, hx⟩

/-- a row of which two elements have changed places -/
def swapL (ls : List L3) (i k : Nat) (x y : L3) : List L3 := (ls.set i y).set k x
theorem cells_set (ls : List L3) : ∀ (i : Nat) (x : L3), i < ls.length → (ls.set i x).flatMap L3.cells = (((ls.flatMap L3.cells).set (i * 3) (.int .i64 x.f)).set (i * 3 + 1) (.int .i64 x.t)).set (i * 3 + 2) (.slice x.s.a x.s.len x.s.cap) := by
  induction ls with
  | nil => intro i x h; simp at h
  | cons l r ih =>
    intro i x h
    cases i with
    | zero => simp [L3.cells, Sl.val]
    | succ i =>
      have := ih i x (by simpa using h)
      rw [List.set_cons_succ, List.flatMap_cons, this, List.flatMap_cons]
      simp only [L3.cells, List.cons_append, List.nil_append, show (i + 1) * 3 = i * 3 + 2 + 1 from by omega, show i * 3 + 2 + 1 + 1 = i * 3 + 1 + 2 + 1 from by omega, show i * 3 + 2 + 1 + 2 = i * 3 + 2 + 2 + 1 from by omega, List.set_cons_succ]

/-- three cells of a row of the call's own, stored anew: one element turned -/
theorem own_put3 {w : World} {base g n cap i : Nat} {ls : List L3} (h : w.ownsRow base 30 3 (.slice (some ⟨g, 0, none⟩) n cap) n (ls.flatMap L3.cells)) (hl : ls.length = n) (hi : i < n) (x : L3) :
    (((w.setCell ⟨g, i * 3, none⟩ (.int .i64 x.f)).setCell ⟨g, i * 3 + 1, none⟩ (.int .i64 x.t)).setCell ⟨g, i * 3 + 2, none⟩ (.slice x.s.a x.s.len x.s.cap)).ownsRow base 30 3 (.slice (some ⟨g, 0, none⟩) n cap) n ((ls.set i x).flatMap L3.cells) := by
  rw [cells_set ls i x (by omega)]
  exact (World.ownsRow.stored (World.ownsRow.stored (World.ownsRow.stored h (i * 3) (.int .i64 x.f)).1 (i * 3 + 1) (.int .i64 x.t)).1 (i * 3 + 2) (.slice x.s.a x.s.len x.s.cap)).1

theorem Touch.drew {S : List Nat} {w w' : World} (h : Touch S w w') : Touch S w w'.drew := ⟨h.os, h.tape, h.output, h.size, h.block⟩
theorem touch_six3 (w : World) (b i0 i1 i2 i3 i4 i5 : Nat) (v0 v1 v2 v3 v4 v5 : Value) : Touch [b] w ((((((w.setCell ⟨b, i0, none⟩ v0).setCell ⟨b, i1, none⟩ v1).setCell ⟨b, i2, none⟩ v2).setCell ⟨b, i3, none⟩ v3).setCell ⟨b, i4, none⟩ v4).setCell ⟨b, i5, none⟩ v5) :=
  (((((Touch.set w _ _ _ (by simp)).trans (Touch.set _ _ _ _ (by simp))).trans (Touch.set _ _ _ _ (by simp))).trans (Touch.set _ _ _ _ (by simp))).trans (Touch.set _ _ _ _ (by simp))).trans (Touch.set _ _ _ _ (by simp))
theorem net_swap {w w2 : World} {N n cap i k b : Nat} {most : Int} {ls : List L3} {x y : L3} (h : NetAt w N most ls (some ⟨b, 0, none⟩) n cap) (_hi : i < n) (_hk : k < n) (hx : x ∈ ls) (hy : y ∈ ls) (hNb : N + 1 ≤ b)
    (hrow : w2.ownsRow (N + 1) 30 3 (.slice (some ⟨b, 0, none⟩) n cap) n ((swapL ls i k x y).flatMap L3.cells)) (ht : Touch [b] w w2) :
    NetAt w2 N most (swapL ls i k x y) (some ⟨b, 0, none⟩) n cap ∧ NStep w w2 N (some ⟨b, 0, none⟩) (some ⟨b, 0, none⟩) := by
  have hNl := lt_of_block h.cell
  refine ⟨⟨(ht.block N hNl (by simp; omega)).trans h.cell, by rw [swapL, List.length_set, List.length_set]; exact h.len, hrow, fun u hu => ?_⟩, ⟨ht.os, ht.tape, ht.output, ht.size, fun g hg _ hx => ht.block g hg (fun hi => hx (by simp at hi; rw [hi]; rfl)), fun _ h => .inl h⟩⟩
  have hu' : u ∈ ls := by
    rcases List.mem_or_eq_of_mem_set hu with hu | rfl
    · rcases List.mem_or_eq_of_mem_set hu with hu | rfl
      · exact hu
      · exact hy
    · exact hx
  exact own_keep (h.own u hu') fun g hg hl => ht.block g hl (fun hi => own_apart (h.own u hu') h.row (by decide) g hg (by simp at hi; rw [hi]; rfl))

set_option maxRecDepth 100000 in
set_option maxHeartbeats 6400000 in
theorem swap_ne (N : Nat) (most : Int) (ls : List L3) (ao : Option Addr) (n cap i k : Nat) (x y : L3) (w : World) (h : NetAt w N most ls ao n cap) (hi : i < n) (hk : k < n) (hik : i ≠ k) (hx : ls[i]? = some x) (hy : ls[k]? = some y) :
    Calls Try.prog 20 #[.pointer (some ⟨N, 0, none⟩), .int .i64 i, .int .i64 k] w fun e w' => e = .returned (.bool true) ∧ NetAt w' N most (swapL ls i k x y) ao n cap ∧ NStep w w' N ao ao := by
  have hti := there_any N most ls ao n cap i w h
  rw [decide_eq_true (p := (0 : Int) ≤ (i : Int) ∧ (i : Int) < (n : Int)) ⟨by omega, by omega⟩] at hti
  have htk := there_any N most ls ao n cap k w h
  rw [decide_eq_true (p := (0 : Int) ≤ (k : Int) ∧ (k : Int) < (n : Int)) ⟨by omega, by omega⟩] at htk
  obtain ⟨b, off, hao, hc0, hc1, hc2⟩ := letters_at (RowN.of_own h.row) h.len i hi x hx
  obtain ⟨b', off', hao', hd0, hd1, hd2⟩ := letters_at (RowN.of_own h.row) h.len k hk y hy
  rw [hao] at hao'
  injection hao' with hao'
  injection hao' with e1 e2 _
  subst e1 e2
  obtain ⟨g, cp, cur, hv, hbg⟩ : ∃ g cp cur, Value.slice ao n cap = .slice (some ⟨g, 0, none⟩) n cp ∧ N + 1 ≤ g ∧ w.heap[g]? = some (.cells cur 30 (0, 0)) := by
    rcases h.row.2 with ⟨_, h0⟩ | ⟨g, cp, cur, hv, hbg, hg, _⟩
    · omega
    · exact ⟨g, cp, cur, hv, hbg, hg⟩
  injection hv with hv1 hvn hvc
  clear hvn
  subst hvc
  rw [hao] at hv1
  injection hv1 with hv1
  injection hv1 with e1 e2 _
  subst e1 e2
  subst hao
  have hfr : ∀ j, w.frozen? ⟨b, j, none⟩ = false := fun j => by simp [World.frozen?, hbg.2]
  obtain ⟨x0, x1, y0, y1⟩ := two_cells h.cell
  have hne' : b ≠ N := by omega
  have hin : (i : Int) < (n : Int) := by omega
  have hi0 : (0 : Int) ≤ (i : Int) := by omega
  have hkn : (k : Int) < (n : Int) := by omega
  have hk0 : (0 : Int) ≤ (k : Int) := by omega
  have q0 : i * 3 ≠ k * 3 := by omega
  have q1 : i * 3 ≠ k * 3 + 1 := by omega
  have q2 : i * 3 ≠ k * 3 + 2 := by omega
  have q3 : i * 3 + 1 ≠ k * 3 := by omega
  have q4 : i * 3 + 1 ≠ k * 3 + 1 := by omega
  have q5 : i * 3 + 1 ≠ k * 3 + 2 := by omega
  have q6 : i * 3 + 2 ≠ k * 3 := by omega
  have q7 : i * 3 + 2 ≠ k * 3 + 1 := by omega
  have q8 : i * 3 + 2 ≠ k * 3 + 2 := by omega
  rw [Nat.zero_add] at hc0 hc1 hc2 hd0 hd1 hd2
  have HTI := Lib.hid hti
  have HTK := Lib.hid htk
  have H := Lib.hid h
  have HX := Lib.hid hx
  have HY := Lib.hid hy
  clear h hti htk hx hy
  go_enter Try.func20, Try.ntmps20
  go_wp2_with fail
  refine HTI.out.mono ?_
  rintro e w1 ⟨rfl, rfl⟩
  go_wp2_with fail
  refine HTK.out.mono ?_
  rintro e w1 ⟨rfl, rfl⟩
  go_wp2_with fail
  refine wp_region_noPanic ?_
  refine wp_region_held_drew (S := (fun w' => w'.cell? ⟨N, 1, none⟩ = some (.slice (some ⟨b, 0, none⟩) n cap))) (by kernel_rfl) x1 (fun hHeld => ?_)
  refine wpAnyH_take (i := 0) (v := ?_) rfl (by kernel_rfl) (by kernel_rfl) (by kernel_rfl) (fun _ _ _ h => h) (Or.inl ⟨by rfl, ?_⟩) (by assumption) ?_
  rotate_left
  · (intro w hSw; (try dsimp only at hSw); go_simp; try with_reducible rfl)
  try simp only [Act.put]
  try simp only [List.setIfInBounds_toArray]
  try simp only [List.set]
  refine wpAnyH_take (i := 1) (v := ?_) rfl (by kernel_rfl) (by kernel_rfl) (by kernel_rfl) (fun _ _ _ h => h) (Or.inl ⟨by rfl, ?_⟩) (by assumption) ?_
  rotate_left
  · (intro w hSw; (try dsimp only at hSw); go_simp; try with_reducible rfl)
  try simp only [Act.put]
  try simp only [List.setIfInBounds_toArray]
  try simp only [List.set]
  refine wpAnyH_take (i := 2) (v := ?_) rfl (by kernel_rfl) (by kernel_rfl) (by kernel_rfl) (fun _ _ _ h => h) (Or.inl ⟨by rfl, ?_⟩) (by assumption) ?_
  rotate_left
  · (intro w hSw; (try dsimp only at hSw); go_simp; try with_reducible rfl)
  try simp only [Act.put]
  try simp only [List.setIfInBounds_toArray]
  try simp only [List.set]
  refine wpAnyH_take (i := 3) (v := ?_) rfl (by kernel_rfl) (by kernel_rfl) (by kernel_rfl) (fun _ _ _ h => h) (Or.inl ⟨by rfl, ?_⟩) (by assumption) ?_
  rotate_left
  · (intro w hSw; (try dsimp only at hSw); go_simp; try with_reducible rfl)
  try simp only [Act.put]
  try simp only [List.setIfInBounds_toArray]
  try simp only [List.set]
  refine wpAnyH_take (i := 4) (v := ?_) rfl (by kernel_rfl) (by kernel_rfl) (by kernel_rfl) (fun _ _ _ h => h) (Or.inl ⟨by rfl, ?_⟩) (by assumption) ?_
  rotate_left
  · (intro w hSw; (try dsimp only at hSw); go_simp; try with_reducible rfl)
  try simp only [Act.put]
  try simp only [List.setIfInBounds_toArray]
  try simp only [List.set]
  refine wpAnyH_take (i := 5) (v := ?_) rfl (by kernel_rfl) (by kernel_rfl) (by kernel_rfl) (fun _ _ _ h => h) (Or.inl ⟨by rfl, ?_⟩) (by assumption) ?_
  rotate_left
  · (intro w hSw; (try dsimp only at hSw); go_simp; try with_reducible rfl)
  try simp only [Act.put]
  try simp only [List.setIfInBounds_toArray]
  try simp only [List.set]
  refine wpAnyH_take (i := 6) (v := ?_) rfl (by kernel_rfl) (by kernel_rfl) (by kernel_rfl) (fun _ _ _ h => h) (Or.inl ⟨by rfl, ?_⟩) (by assumption) ?_
  rotate_left
  · (intro w hSw; (try dsimp only at hSw); go_simp; try with_reducible rfl)
  try simp only [Act.put]
  try simp only [List.setIfInBounds_toArray]
  try simp only [List.set]
  refine wpAnyH_take (i := 7) (v := ?_) rfl (by kernel_rfl) (by kernel_rfl) (by kernel_rfl) (fun _ _ _ h => h) (Or.inl ⟨by rfl, ?_⟩) (by assumption) ?_
  rotate_left
  · (intro w hSw; (try dsimp only at hSw); go_simp; try with_reducible rfl)
  try simp only [Act.put]
  try simp only [List.setIfInBounds_toArray]
  try simp only [List.set]
  refine wpAnyH_take (i := 8) (v := ?_) rfl (by kernel_rfl) (by kernel_rfl) (by kernel_rfl) (fun _ _ _ h => h) (Or.inl ⟨by rfl, ?_⟩) (by assumption) ?_
  rotate_left
  · (intro w hSw; (try dsimp only at hSw); go_simp; try with_reducible rfl)
  try simp only [Act.put]
  try simp only [List.setIfInBounds_toArray]
  try simp only [List.set]
  refine wpAnyH_take (i := 9) (v := ?_) rfl (by kernel_rfl) (by kernel_rfl) (by kernel_rfl) (fun _ _ _ h => h) (Or.inl ⟨by rfl, ?_⟩) (by assumption) ?_
  rotate_left
  · (intro w hSw; (try dsimp only at hSw); go_simp; try with_reducible rfl)
  try simp only [Act.put]
  try simp only [List.setIfInBounds_toArray]
  try simp only [List.set]
  refine wpAnyH_take (i := 10) (v := ?_) rfl (by kernel_rfl) (by kernel_rfl) (by kernel_rfl) (fun _ _ _ h => h) (Or.inl ⟨by rfl, ?_⟩) (by assumption) ?_
  rotate_left
  · (intro w hSw; (try dsimp only at hSw); go_simp; try with_reducible rfl)
  try simp only [Act.put]
  try simp only [List.setIfInBounds_toArray]
  try simp only [List.set]
  refine wpAnyH_take (i := 11) (v := ?_) rfl (by kernel_rfl) (by kernel_rfl) (by kernel_rfl) (fun _ _ _ h => h) (Or.inl ⟨by rfl, ?_⟩) (by assumption) ?_
  rotate_left
  · (intro w hSw; (try dsimp only at hSw); go_simp; try with_reducible rfl)
  try simp only [Act.put]
  try simp only [List.setIfInBounds_toArray]
  try simp only [List.set]
  refine wpAnyH_take (i := 12) (v := ?_) rfl (by kernel_rfl) (by kernel_rfl) (by kernel_rfl) (fun _ _ _ h => h) (Or.inl ⟨by rfl, ?_⟩) (by assumption) ?_
  rotate_left
  · (intro w hSw; (try dsimp only at hSw); go_simp; try with_reducible rfl)
  try simp only [Act.put]
  try simp only [List.setIfInBounds_toArray]
  try simp only [List.set]
  refine wpAnyH_take (i := 13) (v := ?_) rfl (by kernel_rfl) (by kernel_rfl) (by kernel_rfl) (fun _ _ _ h => h) (Or.inl ⟨by rfl, ?_⟩) (by assumption) ?_
  rotate_left
  · (intro w hSw; (try dsimp only at hSw); go_simp; try with_reducible rfl)
  try simp only [Act.put]
  try simp only [List.setIfInBounds_toArray]
  try simp only [List.set]
  refine wpAnyH_take (i := 14) (v := ?_) rfl (by kernel_rfl) (by kernel_rfl) (by kernel_rfl) (fun _ _ _ h => h) (Or.inl ⟨by rfl, ?_⟩) (by assumption) ?_
  rotate_left
  · (intro w hSw; (try dsimp only at hSw); go_simp; try with_reducible rfl)
  try simp only [Act.put]
  try simp only [List.setIfInBounds_toArray]
  try simp only [List.set]
  refine wpAnyH_take (i := 15) (v := ?_) rfl (by kernel_rfl) (by kernel_rfl) (by kernel_rfl) (fun _ _ _ h => h) (Or.inl ⟨by rfl, ?_⟩) (by assumption) ?_
  rotate_left
  · (intro w hSw; (try dsimp only at hSw); go_simp; try with_reducible rfl)
  try simp only [Act.put]
  try simp only [List.setIfInBounds_toArray]
  try simp only [List.set]
  refine wpAnyH_take (i := 17) (v := ?_) rfl (by kernel_rfl) (by kernel_rfl) (by kernel_rfl) (fun _ _ _ h => h) (Or.inl ⟨by rfl, ?_⟩) (by assumption) ?_
  rotate_left
  · (intro w hSw; (try dsimp only at hSw); go_simp; try with_reducible rfl)
  try simp only [Act.put]
  try simp only [List.setIfInBounds_toArray]
  try simp only [List.set]
  refine wpAnyH_take (i := 18) (v := ?_) rfl (by kernel_rfl) (by kernel_rfl) (by kernel_rfl) (fun _ _ _ h => h) (Or.inl ⟨by rfl, ?_⟩) (by assumption) ?_
  rotate_left
  · (intro w hSw; (try dsimp only at hSw); go_simp; try with_reducible rfl)
  try simp only [Act.put]
  try simp only [List.setIfInBounds_toArray]
  try simp only [List.set]
  refine wpAnyH_take (i := 19) (v := ?_) rfl (by kernel_rfl) (by kernel_rfl) (by kernel_rfl) (fun _ _ _ h => h) (Or.inl ⟨by rfl, ?_⟩) (by assumption) ?_
  rotate_left
  · (intro w hSw; (try dsimp only at hSw); go_simp; try with_reducible rfl)
  try simp only [Act.put]
  try simp only [List.setIfInBounds_toArray]
  try simp only [List.set]
  refine wpAnyH_take (i := 20) (v := ?_) rfl (by kernel_rfl) (by kernel_rfl) (by kernel_rfl) (fun _ _ _ h => h) (Or.inl ⟨by rfl, ?_⟩) (by assumption) ?_
  rotate_left
  · (intro w hSw; (try dsimp only at hSw); go_simp; try with_reducible rfl)
  try simp only [Act.put]
  try simp only [List.setIfInBounds_toArray]
  try simp only [List.set]
  refine wpAnyH_take (i := 21) (v := ?_) rfl (by kernel_rfl) (by kernel_rfl) (by kernel_rfl) (fun _ _ _ h => h) (Or.inl ⟨by rfl, ?_⟩) (by assumption) ?_
  rotate_left
  · (intro w hSw; (try dsimp only at hSw); go_simp; try with_reducible rfl)
  try simp only [Act.put]
  try simp only [List.setIfInBounds_toArray]
  try simp only [List.set]
  refine wpAnyH_take (i := 22) (v := ?_) rfl (by kernel_rfl) (by kernel_rfl) (by kernel_rfl) (fun _ _ _ h => h) (Or.inl ⟨by rfl, ?_⟩) (by assumption) ?_
  rotate_left
  · (intro w hSw; (try dsimp only at hSw); go_simp; try with_reducible rfl)
  try simp only [Act.put]
  try simp only [List.setIfInBounds_toArray]
  try simp only [List.set]
  refine wpAnyH_ready (rs := [16, 23]) (by kernel_rfl) (by simp) (AllReadyH.cons rfl (fun K hK => ?_) (AllReadyH.cons rfl (fun K hK => ?_) AllReadyH.nil))
  · go_simp
    refine hK.out _ _ ?_ (fun hHeld => ?_)
    · (try dsimp only)
      (first | go_keep | (simp [World.cell?_setCell_other, hne', x1]; done))
    clear hK K
    try simp only [Act.put]
    try simp only [List.setIfInBounds_toArray]
    try simp only [List.set]
    refine wpAnyH_ready (rs := [23]) (by kernel_rfl) (by simp) (AllReadyH.cons rfl (fun K hK => ?_) AllReadyH.nil)
    go_simp
    refine hK.out _ _ ?_ (fun hHeld => ?_)
    · (try dsimp only)
      (first | go_keep | (simp [World.cell?_setCell_other, hne', x1]; done))
    clear hK K
    try simp only [Act.put]
    try simp only [List.setIfInBounds_toArray]
    try simp only [List.set]
    refine wpAnyH_take (i := 24) (v := ?_) rfl (by kernel_rfl) (by kernel_rfl) (by kernel_rfl) (fun _ _ _ h => h) (Or.inl ⟨by rfl, ?_⟩) (by assumption) ?_
    rotate_left
    · (intro w hSw; (try dsimp only at hSw); go_simp; try with_reducible rfl)
    try simp only [Act.put]
    try simp only [List.setIfInBounds_toArray]
    try simp only [List.set]
    refine wpAnyH_ready (rs := [25]) (by kernel_rfl) (by simp) (AllReadyH.cons rfl (fun K hK => ?_) AllReadyH.nil)
    go_simp
    refine hK.out _ _ ?_ (fun hHeld => ?_)
    · (try dsimp only)
      (first | go_keep | (simp [World.cell?_setCell_other, hne', x1]; done))
    clear hK K
    try simp only [Act.put]
    refine wpAnyH_take (i := 26) (v := ?_) rfl (by kernel_rfl) (by kernel_rfl) (by kernel_rfl) (fun _ _ _ h => h) (Or.inl ⟨by rfl, ?_⟩) (by assumption) ?_
    rotate_left
    · (intro w hSw; (try dsimp only at hSw); go_simp; try with_reducible rfl)
    try simp only [Act.put]
    try simp only [List.setIfInBounds_toArray]
    try simp only [List.set]
    refine wpAnyH_ready (rs := [27]) (by kernel_rfl) (by simp) (AllReadyH.cons rfl (fun K hK => ?_) AllReadyH.nil)
    go_simp
    refine hK.out _ _ ?_ (fun hHeld => ?_)
    · (try dsimp only)
      (first | go_keep | (simp [World.cell?_setCell_other, hne', x1]; done))
    clear hK K
    try simp only [Act.put]
    refine wpAnyH_done (by kernel_rfl) ?_ _
    refine NoPanic.normal ?_
    go_wp2_with fail
    go_ret
    exact ⟨rfl, net_swap H.out hi hk (List.mem_of_getElem? HX.out) (List.mem_of_getElem? HY.out) hbg.1 (World.ownsRow.drew (own_put3 (own_put3 H.out.row H.out.len hi y) (by rw [List.length_set]; exact H.out.len) hk x)) (Touch.drew (touch_six3 w b _ _ _ _ _ _ _ _ _ _ _ _))⟩
  · go_simp
    refine hK.out _ _ ?_ (fun hHeld => ?_)
    · (try dsimp only)
      (first | go_keep | (simp [World.cell?_setCell_other, hne', x1]; done))
    clear hK K
    try simp only [Act.put]
    try simp only [List.setIfInBounds_toArray]
    try simp only [List.set]
    refine wpAnyH_ready (rs := [16]) (by kernel_rfl) (by simp) (AllReadyH.cons rfl (fun K hK => ?_) AllReadyH.nil)
    go_simp
    refine hK.out _ _ ?_ (fun hHeld => ?_)
    · (try dsimp only)
      (first | go_keep | (simp [World.cell?_setCell_other, hne', x1]; done))
    clear hK K
    try simp only [Act.put]
    try simp only [List.setIfInBounds_toArray]
    try simp only [List.set]
    refine wpAnyH_take (i := 24) (v := ?_) rfl (by kernel_rfl) (by kernel_rfl) (by kernel_rfl) (fun _ _ _ h => h) (Or.inl ⟨by rfl, ?_⟩) (by assumption) ?_
    rotate_left
    · (intro w hSw; (try dsimp only at hSw); go_simp; try with_reducible rfl)
    try simp only [Act.put]
    try simp only [List.setIfInBounds_toArray]
    try simp only [List.set]
    refine wpAnyH_ready (rs := [25]) (by kernel_rfl) (by simp) (AllReadyH.cons rfl (fun K hK => ?_) AllReadyH.nil)
    go_simp
    refine hK.out _ _ ?_ (fun hHeld => ?_)
    · (try dsimp only)
      (first | go_keep | (simp [World.cell?_setCell_other, hne', x1]; done))
    clear hK K
    try simp only [Act.put]
    refine wpAnyH_take (i := 26) (v := ?_) rfl (by kernel_rfl) (by kernel_rfl) (by kernel_rfl) (fun _ _ _ h => h) (Or.inl ⟨by rfl, ?_⟩) (by assumption) ?_
    rotate_left
    · (intro w hSw; (try dsimp only at hSw); go_simp; try with_reducible rfl)
    try simp only [Act.put]
    try simp only [List.setIfInBounds_toArray]
    try simp only [List.set]
    refine wpAnyH_ready (rs := [27]) (by kernel_rfl) (by simp) (AllReadyH.cons rfl (fun K hK => ?_) AllReadyH.nil)
    go_simp
    refine hK.out _ _ ?_ (fun hHeld => ?_)
    · (try dsimp only)
      (first | go_keep | (simp [World.cell?_setCell_other, hne', x1]; done))
    clear hK K
    try simp only [Act.put]
    refine wpAnyH_done (by kernel_rfl) ?_ _
    refine NoPanic.normal ?_
    go_wp2_with fail
    go_ret
    exact ⟨rfl, net_swap H.out hi hk (List.mem_of_getElem? HX.out) (List.mem_of_getElem? HY.out) hbg.1 (World.ownsRow.drew (own_put3 (own_put3 H.out.row H.out.len hi y) (by rw [List.length_set]; exact H.out.len) hk x)) (Touch.drew (touch_six3 w b _ _ _ _ _ _ _ _ _ _ _ _))⟩
end Go.Proofs.Ytnjbhjgihcgefaa
