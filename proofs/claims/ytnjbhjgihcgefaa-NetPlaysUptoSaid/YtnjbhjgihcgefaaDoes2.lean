/- The law's does, walked. -/
import Derived.Test.YtnjbhjgihcgefaaDoes
namespace Go.Proofs.Ytnjbhjgihcgefaa
open Go.RowKit

def opBox (w : World) (kd i k f t : Int) (a : Option Addr) (len c : Nat) : World := (w.alloc (.cells #[.int .i64 kd, .int .i64 i, .int .i64 k, .int .i64 f, .int .i64 t, .slice a len c] 43)).alloc (.cells #[.int .i64 0, .int .i64 0, .slice none 0 0] 30)
theorem opBox_size (w : World) (kd i k f t : Int) (a : Option Addr) (len c : Nat) : (opBox w kd i k f t a len c).heap.size = w.heap.size + 2 := by unfold opBox; rw [World.size_alloc, World.size_alloc]
theorem opBox_below (w : World) (kd i k f t : Int) (a : Option Addr) (len c : Nat) : Below w.heap.size w (opBox w kd i k f t a len c) := ((Below.refl _ _).alloc (Nat.le_refl _) _).alloc (by rw [World.size_alloc]; omega) _
theorem opBox_b (w : World) (kd i k f t : Int) (a : Option Addr) (len c : Nat) : (opBox w kd i k f t a len c).heap[w.heap.size + 1]? = some (.cells #[.int .i64 0, .int .i64 0, .slice none 0 0] 30 (0, 0)) := by
  have := heap_alloc_new (w.alloc (.cells #[.int .i64 kd, .int .i64 i, .int .i64 k, .int .i64 f, .int .i64 t, .slice a len c] 43)) (.cells #[.int .i64 0, .int .i64 0, .slice none 0 0] 30)
  rw [World.size_alloc] at this
  exact this
theorem does_mid {w X w2 : World} {N n cap : Nat} {most : Int} {ls : List L3} {ao ao' : Option Addr} (h : NetAt w N most ls ao n cap) (hXs : X.heap.size = w.heap.size + 2) (hs : NStep X w2 N ao ao')
    {c0 c1 c2 : Value} (hB : X.heap[w.heap.size + 1]? = some (.cells #[c0, c1, c2] 30 (0, 0))) : w2.heap[w.heap.size + 1]? = some (.cells #[c0, c1, c2] 30 (0, 0)) :=
  (hs.block _ (by omega) (by have := lt_of_block h.cell; omega) (fun e => by rw [own_addr ao 0 0 n cap] at e; have := (h.row.lt _ e).2; omega)).trans hB

theorem step_zero (most : Int) (xs : List Says) (kd i k : Int) (l : Says) (h : kd ≠ 2) : (netStep most xs kd i k l).2.2 = zSays := by
  unfold netStep
  repeat' split
  all_goals first
    | rfl
    | exact absurd ‹kd = 2› h

set_option maxRecDepth 100000 in
set_option maxHeartbeats 3200000 in
theorem does_1 (N : Nat) (most : Int) (ls : List L3) (ao : Option Addr) (n cap : Nat) (i k f t : Int) (a : Option Addr) (len c : Nat) (bs : List UInt8) (w : World) (h : NetAt w N most ls ao n cap) (hn : n ≤ 1000000000) (hr8 : Row8 w a len bs) (hnil : a = none → len = 0 ∧ c = 0) (hb48 : len ≤ 140737488355328) :
    Calls Try.prog 14 #[.pointer (some ⟨N, 0, none⟩), .agg #[.int .i64 1, .int .i64 i, .int .i64 k, .int .i64 f, .int .i64 t, .slice a len c]] w (DoesPost w N most ao (netStep most (ls.map L3.says) 1 i k (f, t, bs))) := by
  have hc := fun w' (hb : Below w.heap.size w w') (h' : NetAt w' N most ls ao n cap) => send_post N most ls ao n cap i k f t a len c bs w' h' hn (hr8.below hb) hnil hb48
  have HC := Lib.hid hc
  have H := Lib.hid h
  have hNl := lt_of_block h.cell
  obtain ⟨r, hr⟩ : ∃ r, r = netStep most (ls.map L3.says) 1 i k (f, t, bs) := ⟨_, rfl⟩
  rw [← hr] at HC ⊢
  obtain ⟨xs, ok, rf, rt, rb⟩ := r
  have HR := Lib.hid hr
  clear hc h hr
  go_enter Try.func14, Try.ntmps14
  go_wp2_with fail
  refine (HC.out (opBox w 1 i k f t a len c) (opBox_below _ _ _ _ _ _ _ _ _) (H.out.below (opBox_below _ _ _ _ _ _ _ _ _))).mono ?_
  rintro e w2 ⟨rfl, ls', ao', n', cap', hsay, hN2, hs2⟩
  obtain ⟨b0, b1, b2, g0, g1, g2⟩ := three_cells (does_mid H.out (opBox_size _ _ _ _ _ _ _ _ _) hs2 (opBox_b _ _ _ _ _ _ _ _ _))
  have HSAY := Lib.hid hsay
  have HN2 := Lib.hid hN2
  have HS2 := Lib.hid hs2
  clear hsay hN2 hs2
  have hz : (rf, rt, rb) = zSays := by have h1 := congrArg (fun x => x.2.2) HR.out; simp only at h1; rw [h1]; exact step_zero _ _ _ _ _ _ (by decide)
  simp only [zSays, Prod.mk.injEq] at hz
  obtain ⟨rfl, rfl, rfl⟩ := hz
  cases ok with
  | true =>
    rw [if_pos rfl]
    go_wp2_with fail
    obtain ⟨e1, e2, e3, e4⟩ := does_end H.out (opBox_below _ _ _ _ _ _ _ _ _) (opBox_size _ _ _ _ _ _ _ _ _) HS2.out HN2.out (opBox_b _ _ _ _ _ _ _ _ _) (.int .i64 0) (.int .i64 0) (.slice none 0 0)
    exact bodyPost_ret (results_cell_tmp Try.results14 rfl (load_three e3)) rfl (DoesPost.mk rfl rfl (Row8.nil _ none) (Nat.zero_le _) HSAY.out e1 e2)
  | false =>
    rw [if_neg (by simp)]
    go_wp2_with fail
    obtain ⟨e1, e2, e3, e4⟩ := does_end H.out (opBox_below _ _ _ _ _ _ _ _ _) (opBox_size _ _ _ _ _ _ _ _ _) HS2.out HN2.out (opBox_b _ _ _ _ _ _ _ _ _) (.int .i64 0) (.int .i64 0) (.slice none 0 0)
    exact bodyPost_ret (results_cell_tmp Try.results14 rfl (load_three e3)) rfl (DoesPost.mk rfl rfl (Row8.nil _ none) (Nat.zero_le _) HSAY.out e1 e2)

set_option maxRecDepth 100000 in
set_option maxHeartbeats 3200000 in
theorem does_2 (N : Nat) (most : Int) (ls : List L3) (ao : Option Addr) (n cap : Nat) (i k f t : Int) (a : Option Addr) (len c : Nat) (bs : List UInt8) (w : World) (h : NetAt w N most ls ao n cap) (hn : n ≤ 1000000000) :
    Calls Try.prog 14 #[.pointer (some ⟨N, 0, none⟩), .agg #[.int .i64 2, .int .i64 i, .int .i64 k, .int .i64 f, .int .i64 t, .slice a len c]] w (DoesPost w N most ao (netStep most (ls.map L3.says) 2 i k (f, t, bs))) := by
  have hc := fun w' (_ : Below w.heap.size w w') (h' : NetAt w' N most ls ao n cap) => take_post N most ls ao n cap i k (f, t, bs) w' h' hn
  have HC := Lib.hid hc
  have H := Lib.hid h
  have hNl := lt_of_block h.cell
  obtain ⟨r, hr⟩ : ∃ r, r = netStep most (ls.map L3.says) 2 i k (f, t, bs) := ⟨_, rfl⟩
  rw [← hr] at HC ⊢
  obtain ⟨xs, ok, rf, rt, rb⟩ := r
  have HR := Lib.hid hr
  clear hc h hr
  go_enter Try.func14, Try.ntmps14
  go_wp2_with fail
  refine (HC.out (opBox w 2 i k f t a len c) (opBox_below _ _ _ _ _ _ _ _ _) (H.out.below (opBox_below _ _ _ _ _ _ _ _ _))).mono ?_
  rintro e w2 ⟨ls', ao', n', cap', a2, len2, c2, rfl, hown, hsay, hN2, hs2⟩
  simp only at hown hsay
  obtain ⟨b0, b1, b2, g0, g1, g2⟩ := three_cells (does_mid H.out (opBox_size _ _ _ _ _ _ _ _ _) hs2 (opBox_b _ _ _ _ _ _ _ _ _))
  have HSAY := Lib.hid hsay
  have HN2 := Lib.hid hN2
  have HS2 := Lib.hid hs2
  have HOWN := Lib.hid hown
  clear hsay hN2 hs2 hown
  go_wp2_with fail
  obtain ⟨e1, e2, e3, e4⟩ := does_end H.out (opBox_below _ _ _ _ _ _ _ _ _) (opBox_size _ _ _ _ _ _ _ _ _) HS2.out HN2.out (opBox_b _ _ _ _ _ _ _ _ _) (.int .i64 rf) (.int .i64 rt) (.slice a2 len2 c2)
  exact bodyPost_ret (results_cell_tmp Try.results14 rfl (load_three e3)) rfl (DoesPost.mk rfl rfl (e4 _ _ _ _ HOWN.out).row (Nat.le_trans HOWN.out.cap.1 HOWN.out.cap.2) HSAY.out e1 e2)

set_option maxRecDepth 100000 in
set_option maxHeartbeats 3200000 in
theorem does_3 (N : Nat) (most : Int) (ls : List L3) (ao : Option Addr) (n cap : Nat) (i k f t : Int) (a : Option Addr) (len c : Nat) (bs : List UInt8) (w : World) (h : NetAt w N most ls ao n cap) (hn : n ≤ 1000000000) :
    Calls Try.prog 14 #[.pointer (some ⟨N, 0, none⟩), .agg #[.int .i64 3, .int .i64 i, .int .i64 k, .int .i64 f, .int .i64 t, .slice a len c]] w (DoesPost w N most ao (netStep most (ls.map L3.says) 3 i k (f, t, bs))) := by
  have hc := fun w' (_ : Below w.heap.size w w') (h' : NetAt w' N most ls ao n cap) => drop_post N most ls ao n cap i k (f, t, bs) w' h' hn
  have HC := Lib.hid hc
  have H := Lib.hid h
  have hNl := lt_of_block h.cell
  obtain ⟨r, hr⟩ : ∃ r, r = netStep most (ls.map L3.says) 3 i k (f, t, bs) := ⟨_, rfl⟩
  rw [← hr] at HC ⊢
  obtain ⟨xs, ok, rf, rt, rb⟩ := r
  have HR := Lib.hid hr
  clear hc h hr
  go_enter Try.func14, Try.ntmps14
  go_wp2_with fail
  refine (HC.out (opBox w 3 i k f t a len c) (opBox_below _ _ _ _ _ _ _ _ _) (H.out.below (opBox_below _ _ _ _ _ _ _ _ _))).mono ?_
  rintro e w2 ⟨rfl, ls', ao', n', cap', hsay, hN2, hs2⟩
  obtain ⟨b0, b1, b2, g0, g1, g2⟩ := three_cells (does_mid H.out (opBox_size _ _ _ _ _ _ _ _ _) hs2 (opBox_b _ _ _ _ _ _ _ _ _))
  have HSAY := Lib.hid hsay
  have HN2 := Lib.hid hN2
  have HS2 := Lib.hid hs2
  clear hsay hN2 hs2
  have hz : (rf, rt, rb) = zSays := by have h1 := congrArg (fun x => x.2.2) HR.out; simp only at h1; rw [h1]; exact step_zero _ _ _ _ _ _ (by decide)
  simp only [zSays, Prod.mk.injEq] at hz
  obtain ⟨rfl, rfl, rfl⟩ := hz
  go_wp2_with fail
  obtain ⟨e1, e2, e3, e4⟩ := does_end H.out (opBox_below _ _ _ _ _ _ _ _ _) (opBox_size _ _ _ _ _ _ _ _ _) HS2.out HN2.out (opBox_b _ _ _ _ _ _ _ _ _) (.int .i64 0) (.int .i64 0) (.slice none 0 0)
  exact bodyPost_ret (results_cell_tmp Try.results14 rfl (load_three e3)) rfl (DoesPost.mk rfl rfl (Row8.nil _ none) (Nat.zero_le _) HSAY.out e1 e2)

set_option maxRecDepth 100000 in
set_option maxHeartbeats 3200000 in
theorem does_4 (N : Nat) (most : Int) (ls : List L3) (ao : Option Addr) (n cap : Nat) (i k f t : Int) (a : Option Addr) (len c : Nat) (bs : List UInt8) (w : World) (h : NetAt w N most ls ao n cap) (hn : n ≤ 1000000000) (hbig : ∀ x ∈ ls, x.s.len ≤ 140737488355328) :
    Calls Try.prog 14 #[.pointer (some ⟨N, 0, none⟩), .agg #[.int .i64 4, .int .i64 i, .int .i64 k, .int .i64 f, .int .i64 t, .slice a len c]] w (DoesPost w N most ao (netStep most (ls.map L3.says) 4 i k (f, t, bs))) := by
  have hc := fun w' (_ : Below w.heap.size w w') (h' : NetAt w' N most ls ao n cap) => double_post N most ls ao n cap i k (f, t, bs) w' h' hn hbig
  have HC := Lib.hid hc
  have H := Lib.hid h
  have hNl := lt_of_block h.cell
  obtain ⟨r, hr⟩ : ∃ r, r = netStep most (ls.map L3.says) 4 i k (f, t, bs) := ⟨_, rfl⟩
  rw [← hr] at HC ⊢
  obtain ⟨xs, ok, rf, rt, rb⟩ := r
  have HR := Lib.hid hr
  clear hc h hr
  go_enter Try.func14, Try.ntmps14
  go_wp2_with fail
  refine (HC.out (opBox w 4 i k f t a len c) (opBox_below _ _ _ _ _ _ _ _ _) (H.out.below (opBox_below _ _ _ _ _ _ _ _ _))).mono ?_
  rintro e w2 ⟨rfl, ls', ao', n', cap', hsay, hN2, hs2⟩
  obtain ⟨b0, b1, b2, g0, g1, g2⟩ := three_cells (does_mid H.out (opBox_size _ _ _ _ _ _ _ _ _) hs2 (opBox_b _ _ _ _ _ _ _ _ _))
  have HSAY := Lib.hid hsay
  have HN2 := Lib.hid hN2
  have HS2 := Lib.hid hs2
  clear hsay hN2 hs2
  have hz : (rf, rt, rb) = zSays := by have h1 := congrArg (fun x => x.2.2) HR.out; simp only at h1; rw [h1]; exact step_zero _ _ _ _ _ _ (by decide)
  simp only [zSays, Prod.mk.injEq] at hz
  obtain ⟨rfl, rfl, rfl⟩ := hz
  go_wp2_with fail
  obtain ⟨e1, e2, e3, e4⟩ := does_end H.out (opBox_below _ _ _ _ _ _ _ _ _) (opBox_size _ _ _ _ _ _ _ _ _) HS2.out HN2.out (opBox_b _ _ _ _ _ _ _ _ _) (.int .i64 0) (.int .i64 0) (.slice none 0 0)
  exact bodyPost_ret (results_cell_tmp Try.results14 rfl (load_three e3)) rfl (DoesPost.mk rfl rfl (Row8.nil _ none) (Nat.zero_le _) HSAY.out e1 e2)

set_option maxRecDepth 100000 in
set_option maxHeartbeats 3200000 in
theorem does_5 (N : Nat) (most : Int) (ls : List L3) (ao : Option Addr) (n cap : Nat) (i k f t : Int) (a : Option Addr) (len c : Nat) (bs : List UInt8) (w : World) (h : NetAt w N most ls ao n cap) :
    Calls Try.prog 14 #[.pointer (some ⟨N, 0, none⟩), .agg #[.int .i64 5, .int .i64 i, .int .i64 k, .int .i64 f, .int .i64 t, .slice a len c]] w (DoesPost w N most ao (netStep most (ls.map L3.says) 5 i k (f, t, bs))) := by
  have hc := fun w' (_ : Below w.heap.size w w') (h' : NetAt w' N most ls ao n cap) => swap_post N most ls ao n cap i k (f, t, bs) w' h'
  have HC := Lib.hid hc
  have H := Lib.hid h
  have hNl := lt_of_block h.cell
  obtain ⟨r, hr⟩ : ∃ r, r = netStep most (ls.map L3.says) 5 i k (f, t, bs) := ⟨_, rfl⟩
  rw [← hr] at HC ⊢
  obtain ⟨xs, ok, rf, rt, rb⟩ := r
  have HR := Lib.hid hr
  clear hc h hr
  go_enter Try.func14, Try.ntmps14
  go_wp2_with fail
  refine (HC.out (opBox w 5 i k f t a len c) (opBox_below _ _ _ _ _ _ _ _ _) (H.out.below (opBox_below _ _ _ _ _ _ _ _ _))).mono ?_
  rintro e w2 ⟨rfl, ls', ao', n', cap', hsay, hN2, hs2⟩
  obtain ⟨b0, b1, b2, g0, g1, g2⟩ := three_cells (does_mid H.out (opBox_size _ _ _ _ _ _ _ _ _) hs2 (opBox_b _ _ _ _ _ _ _ _ _))
  have HSAY := Lib.hid hsay
  have HN2 := Lib.hid hN2
  have HS2 := Lib.hid hs2
  clear hsay hN2 hs2
  have hz : (rf, rt, rb) = zSays := by have h1 := congrArg (fun x => x.2.2) HR.out; simp only at h1; rw [h1]; exact step_zero _ _ _ _ _ _ (by decide)
  simp only [zSays, Prod.mk.injEq] at hz
  obtain ⟨rfl, rfl, rfl⟩ := hz
  go_wp2_with fail
  obtain ⟨e1, e2, e3, e4⟩ := does_end H.out (opBox_below _ _ _ _ _ _ _ _ _) (opBox_size _ _ _ _ _ _ _ _ _) HS2.out HN2.out (opBox_b _ _ _ _ _ _ _ _ _) (.int .i64 0) (.int .i64 0) (.slice none 0 0)
  exact bodyPost_ret (results_cell_tmp Try.results14 rfl (load_three e3)) rfl (DoesPost.mk rfl rfl (Row8.nil _ none) (Nat.zero_le _) HSAY.out e1 e2)

set_option maxRecDepth 100000 in
set_option maxHeartbeats 3200000 in
theorem does_6 (N : Nat) (most : Int) (ls : List L3) (ao : Option Addr) (n cap : Nat) (i k f t : Int) (a : Option Addr) (len c : Nat) (bs : List UInt8) (w : World) (h : NetAt w N most ls ao n cap) :
    Calls Try.prog 14 #[.pointer (some ⟨N, 0, none⟩), .agg #[.int .i64 6, .int .i64 i, .int .i64 k, .int .i64 f, .int .i64 t, .slice a len c]] w (DoesPost w N most ao (netStep most (ls.map L3.says) 6 i k (f, t, bs))) := by
  have hc := fun w' (_ : Below w.heap.size w w') (h' : NetAt w' N most ls ao n cap) => short_post N most ls ao n cap i k (f, t, bs) w' h'
  have HC := Lib.hid hc
  have H := Lib.hid h
  have hNl := lt_of_block h.cell
  obtain ⟨r, hr⟩ : ∃ r, r = netStep most (ls.map L3.says) 6 i k (f, t, bs) := ⟨_, rfl⟩
  rw [← hr] at HC ⊢
  obtain ⟨xs, ok, rf, rt, rb⟩ := r
  have HR := Lib.hid hr
  clear hc h hr
  go_enter Try.func14, Try.ntmps14
  go_wp2_with fail
  refine (HC.out (opBox w 6 i k f t a len c) (opBox_below _ _ _ _ _ _ _ _ _) (H.out.below (opBox_below _ _ _ _ _ _ _ _ _))).mono ?_
  rintro e w2 ⟨rfl, ls', ao', n', cap', hsay, hN2, hs2⟩
  obtain ⟨b0, b1, b2, g0, g1, g2⟩ := three_cells (does_mid H.out (opBox_size _ _ _ _ _ _ _ _ _) hs2 (opBox_b _ _ _ _ _ _ _ _ _))
  have HSAY := Lib.hid hsay
  have HN2 := Lib.hid hN2
  have HS2 := Lib.hid hs2
  clear hsay hN2 hs2
  have hz : (rf, rt, rb) = zSays := by have h1 := congrArg (fun x => x.2.2) HR.out; simp only at h1; rw [h1]; exact step_zero _ _ _ _ _ _ (by decide)
  simp only [zSays, Prod.mk.injEq] at hz
  obtain ⟨rfl, rfl, rfl⟩ := hz
  go_wp2_with fail
  obtain ⟨e1, e2, e3, e4⟩ := does_end H.out (opBox_below _ _ _ _ _ _ _ _ _) (opBox_size _ _ _ _ _ _ _ _ _) HS2.out HN2.out (opBox_b _ _ _ _ _ _ _ _ _) (.int .i64 0) (.int .i64 0) (.slice none 0 0)
  exact bodyPost_ret (results_cell_tmp Try.results14 rfl (load_three e3)) rfl (DoesPost.mk rfl rfl (Row8.nil _ none) (Nat.zero_le _) HSAY.out e1 e2)

theorem does_any (N : Nat) (most : Int) (ls : List L3) (ao : Option Addr) (n cap : Nat) (kd i k f t : Int) (a : Option Addr) (len c : Nat) (bs : List UInt8) (w : World) (h : NetAt w N most ls ao n cap) (hk : 1 ≤ kd ∧ kd ≤ 6) (hn : n ≤ 1000000000) (hr8 : Row8 w a len bs) (hnil : a = none → len = 0 ∧ c = 0) (hb48 : len ≤ 140737488355328) (hbig : ∀ x ∈ ls, x.s.len ≤ 140737488355328) :
    Calls Try.prog 14 #[.pointer (some ⟨N, 0, none⟩), .agg #[.int .i64 kd, .int .i64 i, .int .i64 k, .int .i64 f, .int .i64 t, .slice a len c]] w (DoesPost w N most ao (netStep most (ls.map L3.says) kd i k (f, t, bs))) := by
  have : kd = 1 ∨ kd = 2 ∨ kd = 3 ∨ kd = 4 ∨ kd = 5 ∨ kd = 6 := by omega
  rcases this with rfl | rfl | rfl | rfl | rfl | rfl
  · exact does_1 N most ls ao n cap i k f t a len c bs w h hn hr8 hnil hb48
  · exact does_2 N most ls ao n cap i k f t a len c bs w h hn
  · exact does_3 N most ls ao n cap i k f t a len c bs w h hn
  · exact does_4 N most ls ao n cap i k f t a len c bs w h hn hbig
  · exact does_5 N most ls ao n cap i k f t a len c bs w h
  · exact does_6 N most ls ao n cap i k f t a len c bs w h
end Go.Proofs.Ytnjbhjgihcgefaa
