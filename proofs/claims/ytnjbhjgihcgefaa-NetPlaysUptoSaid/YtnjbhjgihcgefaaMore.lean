/- Where the net's functions do nothing; Swap of a letter with itself. -/
import Derived.Test.YtnjbhjgihcgefaaShort
namespace Go.Proofs.Ytnjbhjgihcgefaa
open Go.RowKit

set_option maxRecDepth 100000 in
set_option maxHeartbeats 6400000 in
theorem swap_eq (N : Nat) (most : Int) (ls : List L3) (ao : Option Addr) (n cap i : Nat) (x : L3) (w : World) (h : NetAt w N most ls ao n cap) (hi : i < n) (hx : ls[i]? = some x) :
    Calls Try.prog 20 #[.pointer (some ⟨N, 0, none⟩), .int .i64 i, .int .i64 i] w fun e w' => e = .returned (.bool true) ∧ NetAt w' N most (swapL ls i i x x) ao n cap ∧ NStep w w' N ao ao := by
  have hti := there_any N most ls ao n cap i w h
  rw [decide_eq_true (p := (0 : Int) ≤ (i : Int) ∧ (i : Int) < (n : Int)) ⟨by omega, by omega⟩] at hti
  obtain ⟨b, off, hao, hc0, hc1, hc2⟩ := letters_at (RowN.of_own h.row) h.len i hi x hx
  obtain ⟨g, cp, cur, hv, hbg⟩ : ∃ g cp cur, Value.slice ao n cap = .slice (some ⟨g, 0, none⟩) n cp ∧ N + 1 ≤ g ∧ w.heap[g]? = some (.cells cur 30 (0, 0)) := by
    rcases h.row.2 with ⟨_, h0⟩ | ⟨g, cp, cur, hv, hbg, hg, _⟩
    · omega
    · exact ⟨g, cp, cur, hv, hbg, hg⟩
  injection hv with hv1 hvn hvc
  clear hvn
  subst hvc
  rw [hao] at hv1
  injection hv1 with hv1
  injection hv1 with e1 e2 _
  subst e1 e2
  subst hao
  have hfr : ∀ j, w.frozen? ⟨b, j, none⟩ = false := fun j => by simp [World.frozen?, hbg.2]
  obtain ⟨x0, x1, y0, y1⟩ := two_cells h.cell
  have hne' : b ≠ N := by omega
  have hin : (i : Int) < (n : Int) := by omega
  have hi0 : (0 : Int) ≤ (i : Int) := by omega
  rw [Nat.zero_add] at hc0 hc1 hc2
  have HTI := Lib.hid hti
  have H := Lib.hid h
  have HX := Lib.hid hx
  clear h hti hx
  go_enter Try.func20, Try.ntmps20
  go_wp2_with fail
  refine HTI.out.mono ?_
  rintro e w1 ⟨rfl, rfl⟩
  go_wp2_with fail
  refine HTI.out.mono ?_
  rintro e w1 ⟨rfl, rfl⟩
  go_wp2_with fail
  refine wp_region_noPanic ?_
  refine wp_region_held_drew (S := (fun w' => w'.cell? ⟨N, 1, none⟩ = some (.slice (some ⟨b, 0, none⟩) n cap))) (by kernel_rfl) x1 (fun hHeld => ?_)
  refine wpAnyH_take (i := 0) (v := ?_) rfl (by kernel_rfl) (by kernel_rfl) (by kernel_rfl) (fun _ _ _ h => h) (Or.inl ⟨by rfl, ?_⟩) (by assumption) ?_
  rotate_left
  · (intro w hSw; (try dsimp only at hSw); go_simp; try with_reducible rfl)
  try simp only [Act.put]
  try simp only [List.setIfInBounds_toArray]
  try simp only [List.set]
  refine wpAnyH_take (i := 1) (v := ?_) rfl (by kernel_rfl) (by kernel_rfl) (by kernel_rfl) (fun _ _ _ h => h) (Or.inl ⟨by rfl, ?_⟩) (by assumption) ?_
  rotate_left
  · (intro w hSw; (try dsimp only at hSw); go_simp; try with_reducible rfl)
  try simp only [Act.put]
  try simp only [List.setIfInBounds_toArray]
  try simp only [List.set]
  refine wpAnyH_take (i := 2) (v := ?_) rfl (by kernel_rfl) (by kernel_rfl) (by kernel_rfl) (fun _ _ _ h => h) (Or.inl ⟨by rfl, ?_⟩) (by assumption) ?_
  rotate_left
  · (intro w hSw; (try dsimp only at hSw); go_simp; try with_reducible rfl)
  try simp only [Act.put]
  try simp only [List.setIfInBounds_toArray]
  try simp only [List.set]
  refine wpAnyH_take (i := 3) (v := ?_) rfl (by kernel_rfl) (by kernel_rfl) (by kernel_rfl) (fun _ _ _ h => h) (Or.inl ⟨by rfl, ?_⟩) (by assumption) ?_
  rotate_left
  · (intro w hSw; (try dsimp only at hSw); go_simp; try with_reducible rfl)
  try simp only [Act.put]
  try simp only [List.setIfInBounds_toArray]
  try simp only [List.set]
  refine wpAnyH_take (i := 4) (v := ?_) rfl (by kernel_rfl) (by kernel_rfl) (by kernel_rfl) (fun _ _ _ h => h) (Or.inl ⟨by rfl, ?_⟩) (by assumption) ?_
  rotate_left
  · (intro w hSw; (try dsimp only at hSw); go_simp; try with_reducible rfl)
  try simp only [Act.put]
  try simp only [List.setIfInBounds_toArray]
  try simp only [List.set]
  refine wpAnyH_take (i := 5) (v := ?_) rfl (by kernel_rfl) (by kernel_rfl) (by kernel_rfl) (fun _ _ _ h => h) (Or.inl ⟨by rfl, ?_⟩) (by assumption) ?_
  rotate_left
  · (intro w hSw; (try dsimp only at hSw); go_simp; try with_reducible rfl)
  try simp only [Act.put]
  try simp only [List.setIfInBounds_toArray]
  try simp only [List.set]
  refine wpAnyH_take (i := 6) (v := ?_) rfl (by kernel_rfl) (by kernel_rfl) (by kernel_rfl) (fun _ _ _ h => h) (Or.inl ⟨by rfl, ?_⟩) (by assumption) ?_
  rotate_left
  · (intro w hSw; (try dsimp only at hSw); go_simp; try with_reducible rfl)
  try simp only [Act.put]
  try simp only [List.setIfInBounds_toArray]
  try simp only [List.set]
  refine wpAnyH_take (i := 7) (v := ?_) rfl (by kernel_rfl) (by kernel_rfl) (by kernel_rfl) (fun _ _ _ h => h) (Or.inl ⟨by rfl, ?_⟩) (by assumption) ?_
  rotate_left
  · (intro w hSw; (try dsimp only at hSw); go_simp; try with_reducible rfl)
  try simp only [Act.put]
  try simp only [List.setIfInBounds_toArray]
  try simp only [List.set]
  refine wpAnyH_take (i := 8) (v := ?_) rfl (by kernel_rfl) (by kernel_rfl) (by kernel_rfl) (fun _ _ _ h => h) (Or.inl ⟨by rfl, ?_⟩) (by assumption) ?_
  rotate_left
  · (intro w hSw; (try dsimp only at hSw); go_simp; try with_reducible rfl)
  try simp only [Act.put]
  try simp only [List.setIfInBounds_toArray]
  try simp only [List.set]
  refine wpAnyH_take (i := 9) (v := ?_) rfl (by kernel_rfl) (by kernel_rfl) (by kernel_rfl) (fun _ _ _ h => h) (Or.inl ⟨by rfl, ?_⟩) (by assumption) ?_
  rotate_left
  · (intro w hSw; (try dsimp only at hSw); go_simp; try with_reducible rfl)
  try simp only [Act.put]
  try simp only [List.setIfInBounds_toArray]
  try simp only [List.set]
  refine wpAnyH_take (i := 10) (v := ?_) rfl (by kernel_rfl) (by kernel_rfl) (by kernel_rfl) (fun _ _ _ h => h) (Or.inl ⟨by rfl, ?_⟩) (by assumption) ?_
  rotate_left
  · (intro w hSw; (try dsimp only at hSw); go_simp; try with_reducible rfl)
  try simp only [Act.put]
  try simp only [List.setIfInBounds_toArray]
  try simp only [List.set]
  refine wpAnyH_take (i := 11) (v := ?_) rfl (by kernel_rfl) (by kernel_rfl) (by kernel_rfl) (fun _ _ _ h => h) (Or.inl ⟨by rfl, ?_⟩) (by assumption) ?_
  rotate_left
  · (intro w hSw; (try dsimp only at hSw); go_simp; try with_reducible rfl)
  try simp only [Act.put]
  try simp only [List.setIfInBounds_toArray]
  try simp only [List.set]
  refine wpAnyH_take (i := 12) (v := ?_) rfl (by kernel_rfl) (by kernel_rfl) (by kernel_rfl) (fun _ _ _ h => h) (Or.inl ⟨by rfl, ?_⟩) (by assumption) ?_
  rotate_left
  · (intro w hSw; (try dsimp only at hSw); go_simp; try with_reducible rfl)
  try simp only [Act.put]
  try simp only [List.setIfInBounds_toArray]
  try simp only [List.set]
  refine wpAnyH_take (i := 13) (v := ?_) rfl (by kernel_rfl) (by kernel_rfl) (by kernel_rfl) (fun _ _ _ h => h) (Or.inl ⟨by rfl, ?_⟩) (by assumption) ?_
  rotate_left
  · (intro w hSw; (try dsimp only at hSw); go_simp; try with_reducible rfl)
  try simp only [Act.put]
  try simp only [List.setIfInBounds_toArray]
  try simp only [List.set]
  refine wpAnyH_take (i := 14) (v := ?_) rfl (by kernel_rfl) (by kernel_rfl) (by kernel_rfl) (fun _ _ _ h => h) (Or.inl ⟨by rfl, ?_⟩) (by assumption) ?_
  rotate_left
  · (intro w hSw; (try dsimp only at hSw); go_simp; try with_reducible rfl)
  try simp only [Act.put]
  try simp only [List.setIfInBounds_toArray]
  try simp only [List.set]
  refine wpAnyH_take (i := 15) (v := ?_) rfl (by kernel_rfl) (by kernel_rfl) (by kernel_rfl) (fun _ _ _ h => h) (Or.inl ⟨by rfl, ?_⟩) (by assumption) ?_
  rotate_left
  · (intro w hSw; (try dsimp only at hSw); go_simp; try with_reducible rfl)
  try simp only [Act.put]
  try simp only [List.setIfInBounds_toArray]
  try simp only [List.set]
  refine wpAnyH_take (i := 17) (v := ?_) rfl (by kernel_rfl) (by kernel_rfl) (by kernel_rfl) (fun _ _ _ h => h) (Or.inl ⟨by rfl, ?_⟩) (by assumption) ?_
  rotate_left
  · (intro w hSw; (try dsimp only at hSw); go_simp; try with_reducible rfl)
  try simp only [Act.put]
  try simp only [List.setIfInBounds_toArray]
  try simp only [List.set]
  refine wpAnyH_take (i := 18) (v := ?_) rfl (by kernel_rfl) (by kernel_rfl) (by kernel_rfl) (fun _ _ _ h => h) (Or.inl ⟨by rfl, ?_⟩) (by assumption) ?_
  rotate_left
  · (intro w hSw; (try dsimp only at hSw); go_simp; try with_reducible rfl)
  try simp only [Act.put]
  try simp only [List.setIfInBounds_toArray]
  try simp only [List.set]
  refine wpAnyH_take (i := 19) (v := ?_) rfl (by kernel_rfl) (by kernel_rfl) (by kernel_rfl) (fun _ _ _ h => h) (Or.inl ⟨by rfl, ?_⟩) (by assumption) ?_
  rotate_left
  · (intro w hSw; (try dsimp only at hSw); go_simp; try with_reducible rfl)
  try simp only [Act.put]
  try simp only [List.setIfInBounds_toArray]
  try simp only [List.set]
  refine wpAnyH_take (i := 20) (v := ?_) rfl (by kernel_rfl) (by kernel_rfl) (by kernel_rfl) (fun _ _ _ h => h) (Or.inl ⟨by rfl, ?_⟩) (by assumption) ?_
  rotate_left
  · (intro w hSw; (try dsimp only at hSw); go_simp; try with_reducible rfl)
  try simp only [Act.put]
  try simp only [List.setIfInBounds_toArray]
  try simp only [List.set]
  refine wpAnyH_take (i := 21) (v := ?_) rfl (by kernel_rfl) (by kernel_rfl) (by kernel_rfl) (fun _ _ _ h => h) (Or.inl ⟨by rfl, ?_⟩) (by assumption) ?_
  rotate_left
  · (intro w hSw; (try dsimp only at hSw); go_simp; try with_reducible rfl)
  try simp only [Act.put]
  try simp only [List.setIfInBounds_toArray]
  try simp only [List.set]
  refine wpAnyH_take (i := 22) (v := ?_) rfl (by kernel_rfl) (by kernel_rfl) (by kernel_rfl) (fun _ _ _ h => h) (Or.inl ⟨by rfl, ?_⟩) (by assumption) ?_
  rotate_left
  · (intro w hSw; (try dsimp only at hSw); go_simp; try with_reducible rfl)
  try simp only [Act.put]
  try simp only [List.setIfInBounds_toArray]
  try simp only [List.set]
  refine wpAnyH_ready (rs := [16, 23]) (by kernel_rfl) (by simp) (AllReadyH.cons rfl (fun K hK => ?_) (AllReadyH.cons rfl (fun K hK => ?_) AllReadyH.nil))
  · go_simp
    refine hK.out _ _ ?_ (fun hHeld => ?_)
    · (try dsimp only)
      (first | go_keep | (simp [World.cell?_setCell_other, hne', x1]; done))
    clear hK K
    try simp only [Act.put]
    try simp only [List.setIfInBounds_toArray]
    try simp only [List.set]
    refine wpAnyH_ready (rs := [23]) (by kernel_rfl) (by simp) (AllReadyH.cons rfl (fun K hK => ?_) AllReadyH.nil)
    go_simp
    refine hK.out _ _ ?_ (fun hHeld => ?_)
    · (try dsimp only)
      (first | go_keep | (simp [World.cell?_setCell_other, hne', x1]; done))
    clear hK K
    try simp only [Act.put]
    try simp only [List.setIfInBounds_toArray]
    try simp only [List.set]
    refine wpAnyH_take (i := 24) (v := ?_) rfl (by kernel_rfl) (by kernel_rfl) (by kernel_rfl) (fun _ _ _ h => h) (Or.inl ⟨by rfl, ?_⟩) (by assumption) ?_
    rotate_left
    · (intro w hSw; (try dsimp only at hSw); go_simp; try with_reducible rfl)
    try simp only [Act.put]
    try simp only [List.setIfInBounds_toArray]
    try simp only [List.set]
    refine wpAnyH_ready (rs := [25]) (by kernel_rfl) (by simp) (AllReadyH.cons rfl (fun K hK => ?_) AllReadyH.nil)
    go_simp
    refine hK.out _ _ ?_ (fun hHeld => ?_)
    · (try dsimp only)
      (first | go_keep | (simp [World.cell?_setCell_other, hne', x1]; done))
    clear hK K
    try simp only [Act.put]
    refine wpAnyH_take (i := 26) (v := ?_) rfl (by kernel_rfl) (by kernel_rfl) (by kernel_rfl) (fun _ _ _ h => h) (Or.inl ⟨by rfl, ?_⟩) (by assumption) ?_
    rotate_left
    · (intro w hSw; (try dsimp only at hSw); go_simp; try with_reducible rfl)
    try simp only [Act.put]
    try simp only [List.setIfInBounds_toArray]
    try simp only [List.set]
    refine wpAnyH_ready (rs := [27]) (by kernel_rfl) (by simp) (AllReadyH.cons rfl (fun K hK => ?_) AllReadyH.nil)
    go_simp
    refine hK.out _ _ ?_ (fun hHeld => ?_)
    · (try dsimp only)
      (first | go_keep | (simp [World.cell?_setCell_other, hne', x1]; done))
    clear hK K
    try simp only [Act.put]
    refine wpAnyH_done (by kernel_rfl) ?_ _
    refine NoPanic.normal ?_
    go_wp2_with fail
    go_ret
    exact ⟨rfl, net_swap H.out hi hi (List.mem_of_getElem? HX.out) (List.mem_of_getElem? HX.out) hbg.1 (World.ownsRow.drew (own_put3 (own_put3 H.out.row H.out.len hi x) (by rw [List.length_set]; exact H.out.len) hi x)) (Touch.drew (touch_six3 w b _ _ _ _ _ _ _ _ _ _ _ _))⟩
  · go_simp
    refine hK.out _ _ ?_ (fun hHeld => ?_)
    · (try dsimp only)
      (first | go_keep | (simp [World.cell?_setCell_other, hne', x1]; done))
    clear hK K
    try simp only [Act.put]
    try simp only [List.setIfInBounds_toArray]
    try simp only [List.set]
    refine wpAnyH_ready (rs := [16]) (by kernel_rfl) (by simp) (AllReadyH.cons rfl (fun K hK => ?_) AllReadyH.nil)
    go_simp
    refine hK.out _ _ ?_ (fun hHeld => ?_)
    · (try dsimp only)
      (first | go_keep | (simp [World.cell?_setCell_other, hne', x1]; done))
    clear hK K
    try simp only [Act.put]
    try simp only [List.setIfInBounds_toArray]
    try simp only [List.set]
    refine wpAnyH_take (i := 24) (v := ?_) rfl (by kernel_rfl) (by kernel_rfl) (by kernel_rfl) (fun _ _ _ h => h) (Or.inl ⟨by rfl, ?_⟩) (by assumption) ?_
    rotate_left
    · (intro w hSw; (try dsimp only at hSw); go_simp; try with_reducible rfl)
    try simp only [Act.put]
    try simp only [List.setIfInBounds_toArray]
    try simp only [List.set]
    refine wpAnyH_ready (rs := [25]) (by kernel_rfl) (by simp) (AllReadyH.cons rfl (fun K hK => ?_) AllReadyH.nil)
    go_simp
    refine hK.out _ _ ?_ (fun hHeld => ?_)
    · (try dsimp only)
      (first | go_keep | (simp [World.cell?_setCell_other, hne', x1]; done))
    clear hK K
    try simp only [Act.put]
    refine wpAnyH_take (i := 26) (v := ?_) rfl (by kernel_rfl) (by kernel_rfl) (by kernel_rfl) (fun _ _ _ h => h) (Or.inl ⟨by rfl, ?_⟩) (by assumption) ?_
    rotate_left
    · (intro w hSw; (try dsimp only at hSw); go_simp; try with_reducible rfl)
    try simp only [Act.put]
    try simp only [List.setIfInBounds_toArray]
    try simp only [List.set]
    refine wpAnyH_ready (rs := [27]) (by kernel_rfl) (by simp) (AllReadyH.cons rfl (fun K hK => ?_) AllReadyH.nil)
    go_simp
    refine hK.out _ _ ?_ (fun hHeld => ?_)
    · (try dsimp only)
      (first | go_keep | (simp [World.cell?_setCell_other, hne', x1]; done))
    clear hK K
    try simp only [Act.put]
    refine wpAnyH_done (by kernel_rfl) ?_ _
    refine NoPanic.normal ?_
    go_wp2_with fail
    go_ret
    exact ⟨rfl, net_swap H.out hi hi (List.mem_of_getElem? HX.out) (List.mem_of_getElem? HX.out) hbg.1 (World.ownsRow.drew (own_put3 (own_put3 H.out.row H.out.len hi x) (by rw [List.length_set]; exact H.out.len) hi x)) (Touch.drew (touch_six3 w b _ _ _ _ _ _ _ _ _ _ _ _))⟩

set_option maxRecDepth 100000 in
set_option maxHeartbeats 3200000 in
theorem swap_no (N : Nat) (most : Int) (ls : List L3) (ao : Option Addr) (n cap : Nat) (i k : Int) (w : World) (h : NetAt w N most ls ao n cap) (hi : ¬ ((0 ≤ i ∧ i < n) ∧ (0 ≤ k ∧ k < n))) :
    Calls Try.prog 20 #[.pointer (some ⟨N, 0, none⟩), .int .i64 i, .int .i64 k] w fun e w' => e = .returned (.bool false) ∧ w = w' := by
  have hti := there_any N most ls ao n cap i w h
  have htk := there_any N most ls ao n cap k w h
  have HTI := Lib.hid hti
  have HTK := Lib.hid htk
  clear h hti htk
  by_cases h1 : 0 ≤ i ∧ i < (n : Int)
  · have h2 : ¬ (0 ≤ k ∧ k < (n : Int)) := fun h2 => hi ⟨h1, h2⟩
    have H1 := Lib.hid (decide_eq_true h1)
    have H2 := Lib.hid (decide_eq_false h2)
    clear h1 h2 hi
    go_enter Try.func20, Try.ntmps20
    go_wp2_with fail
    refine HTI.out.mono ?_
    rintro e w1 ⟨rfl, rfl⟩
    rw [H1.out]
    go_wp2_with fail
    refine HTK.out.mono ?_
    rintro e w1 ⟨rfl, rfl⟩
    rw [H2.out]
    go_wp2_with fail
    go_ret
    exact ⟨rfl, rfl⟩
  · have H1 := Lib.hid (decide_eq_false h1)
    clear h1 hi
    go_enter Try.func20, Try.ntmps20
    go_wp2_with fail
    refine HTI.out.mono ?_
    rintro e w1 ⟨rfl, rfl⟩
    rw [H1.out]
    go_wp2_with fail
    go_ret
    exact ⟨rfl, rfl⟩

set_option maxRecDepth 100000 in
set_option maxHeartbeats 3200000 in
theorem double_no (N : Nat) (most : Int) (ls : List L3) (ao : Option Addr) (n cap : Nat) (i : Int) (w : World) (h : NetAt w N most ls ao n cap) (hi : ¬ (0 ≤ i ∧ i < n)) :
    Calls Try.prog 19 #[.pointer (some ⟨N, 0, none⟩), .int .i64 i] w fun e w' => e = .returned (.bool false) ∧ w = w' := by
  have HTI := Lib.hid (there_any N most ls ao n cap i w h)
  have H1 := Lib.hid (decide_eq_false hi)
  clear h hi
  go_enter Try.func19, Try.ntmps19
  go_wp2_with fail
  refine HTI.out.mono ?_
  rintro e w1 ⟨rfl, rfl⟩
  rw [H1.out]
  go_wp2_with fail
  go_ret
  exact ⟨rfl, rfl⟩

set_option maxRecDepth 100000 in
set_option maxHeartbeats 3200000 in
theorem double_full (N : Nat) (most : Int) (ls : List L3) (ao : Option Addr) (n cap i : Nat) (w : World) (h : NetAt w N most ls ao n cap) (hi : i < n) (hf : (n : Int) = most) :
    Calls Try.prog 19 #[.pointer (some ⟨N, 0, none⟩), .int .i64 i] w fun e w' => e = .returned (.bool false) ∧ Below w.heap.size w w' := by
  have ht := there_any N most ls ao n cap i w h
  rw [decide_eq_true (p := (0 : Int) ≤ (i : Int) ∧ (i : Int) < (n : Int)) ⟨by omega, by omega⟩] at ht
  obtain ⟨l, hl⟩ : ∃ l, ls[i]? = some l := ⟨_, List.getElem?_eq_getElem (by rw [h.len]; exact hi)⟩
  obtain ⟨b, off, hao, hc0, hc1, hc2⟩ := letters_at (RowN.of_own h.row) h.len i hi l hl
  have hs := send_full N most ls ao n cap (.agg #[.int .i64 l.f, .int .i64 l.t, .slice l.s.a l.s.len l.s.cap]) w h hf ⟨_, _, _, _, _, rfl⟩
  obtain ⟨x0, x1, y0, y1⟩ := two_cells h.cell
  have hin : (i : Int) < (n : Int) := by omega
  have hi0 : (0 : Int) ≤ (i : Int) := by omega
  have HT := Lib.hid ht
  have HSD := Lib.hid hs
  clear h ht hl hs hf
  subst hao
  go_enter Try.func19, Try.ntmps19
  go_wp2_with fail
  refine HT.out.mono ?_
  rintro e w1 ⟨rfl, rfl⟩
  go_wp2_with fail
  refine HSD.out.mono ?_
  rintro e w1 ⟨rfl, hx⟩
  go_wp2_with fail
  go_ret
  exact ⟨rfl, hx⟩

set_option maxRecDepth 100000 in
set_option maxHeartbeats 3200000 in
theorem short_out (N : Nat) (most : Int) (ls : List L3) (ao : Option Addr) (n cap : Nat) (i : Int) (w : World) (h : NetAt w N most ls ao n cap) (hi : ¬ (0 ≤ i ∧ i < n)) :
    Calls Try.prog 25 #[.pointer (some ⟨N, 0, none⟩), .int .i64 i] w fun e w' => e = .returned (.bool false) ∧ w = w' := by
  have HTI := Lib.hid (there_any N most ls ao n cap i w h)
  have H1 := Lib.hid (decide_eq_false hi)
  clear h hi
  go_enter Try.func25, Try.ntmps25
  go_wp2_with fail
  refine HTI.out.mono ?_
  rintro e w1 ⟨rfl, rfl⟩
  rw [H1.out]
  go_wp2_with fail
  go_ret
  exact ⟨rfl, rfl⟩

set_option maxRecDepth 100000 in
set_option maxHeartbeats 3200000 in
theorem short_empty (N : Nat) (most : Int) (ls : List L3) (ao : Option Addr) (n cap i : Nat) (l : L3) (w : World) (h : NetAt w N most ls ao n cap) (hi : i < n) (hl : ls[i]? = some l) (h0 : l.s.len = 0) :
    Calls Try.prog 25 #[.pointer (some ⟨N, 0, none⟩), .int .i64 i] w fun e w' => e = .returned (.bool false) ∧ w = w' := by
  have ht := there_any N most ls ao n cap i w h
  rw [decide_eq_true (p := (0 : Int) ≤ (i : Int) ∧ (i : Int) < (n : Int)) ⟨by omega, by omega⟩] at ht
  obtain ⟨b, off, hao, hc0, hc1, hc2⟩ := letters_at (RowN.of_own h.row) h.len i hi l hl
  rw [h0] at hc2
  obtain ⟨x0, x1, y0, y1⟩ := two_cells h.cell
  have hin : (i : Int) < (n : Int) := by omega
  have hi0 : (0 : Int) ≤ (i : Int) := by omega
  have HT := Lib.hid ht
  clear h ht hl h0
  subst hao
  go_enter Try.func25, Try.ntmps25
  go_wp2_with fail
  refine HT.out.mono ?_
  rintro e w1 ⟨rfl, rfl⟩
  go_wp2_with fail
  go_ret
  exact ⟨rfl, rfl⟩
end Go.Proofs.Ytnjbhjgihcgefaa
