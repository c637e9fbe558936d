/- Configurations: the clone; a new log (out of rlog's text). -/
import Derived.Test.YtcejamblndilbaaInts
namespace Go.Proofs.Ytcejamblndilbaa
open Go.RowKit

theorem load_conf {w : World} {B : Nat} {c0 c1 : Value} (h : w.heap[B]? = some (.cells #[c0, c1] 26 (0, 0))) : (loadVar 26 ⟨B, 0, none⟩).run Try.prog w = .ok (.agg #[c0, c1]) w := by
  refine run_loadVar_mid w B 0 _ [c0, c1] _ (fun j v hv => ?_) Try.underlying26 rfl (by kernel_rfl)
  simp only [World.cell?, h, Nat.zero_add]
  rw [← hv]
  simp
/-- It returns a configuration that says this, in memory of its own. -/
def RetConf (w : World) (says : List Int × List Int) (e : Ending) (w' : World) : Prop :=
  ∃ c : Cf, e = .returned (.agg #[.slice c.v.a c.v.len c.v.cap, .slice c.l.a c.l.len c.l.cap]) ∧ c.says = says ∧ OwnZ w' w.heap.size c.v ∧ OwnZ w' w.heap.size c.l ∧ Below w.heap.size w w'
theorem OwnZ.len {w : World} {base : Nat} {s : Is} (h : OwnZ w base s) : s.zs.length = s.len := by
  have := h.row.1
  rw [cellsZ_len] at this
  omega
/-- the last stores of a function that returns a configuration out of a variable -/
theorem conf_last {w w2 : World} {B : Nat} {says : List Int × List Int} {c : Cf} {p0 p1 : Value} (hs : c.says = says) (hv : OwnZ w2 (B + 1) c.v) (hl : OwnZ w2 (B + 1) c.l) (hwB : w.heap.size ≤ B) (hb : Below w.heap.size w w2) (hB : w2.heap[B]? = some (.cells #[p0, p1] 26 (0, 0))) :
    ((w2.setCell ⟨B, 0, none⟩ (.slice c.v.a c.v.len c.v.cap)).setCell ⟨B, 1, none⟩ (.slice c.l.a c.l.len c.l.cap)).heap[B]? = some (.cells #[.slice c.v.a c.v.len c.v.cap, .slice c.l.a c.l.len c.l.cap] 26 (0, 0)) ∧
    RetConf w says (.returned (.agg #[.slice c.v.a c.v.len c.v.cap, .slice c.l.a c.l.len c.l.cap])) ((w2.setCell ⟨B, 0, none⟩ (.slice c.v.a c.v.len c.v.cap)).setCell ⟨B, 1, none⟩ (.slice c.l.a c.l.len c.l.cap)) := by
  have ht : Touch [B] w2 ((w2.setCell ⟨B, 0, none⟩ (.slice c.v.a c.v.len c.v.cap)).setCell ⟨B, 1, none⟩ (.slice c.l.a c.l.len c.l.cap)) := touch_set (touch_set (Touch.refl _ _) _ _ _ (by simp)) _ _ _ (by simp)
  have hk : ∀ s : Is, OwnZ w2 (B + 1) s → OwnZ ((w2.setCell ⟨B, 0, none⟩ (.slice c.v.a c.v.len c.v.cap)).setCell ⟨B, 1, none⟩ (.slice c.l.a c.l.len c.l.cap)) w.heap.size s := fun s h => own_more (own_keep h fun g hg hlt => ht.block g hlt (fun hm => by have := (h.lt g hg).1; simp at hm; omega)) (by omega)
  exact ⟨set_block (i := 1) (set_block (i := 0) hB _) _, c, rfl, hs, hk _ hv, hk _ hl, ht.below hb hb.size (fun k hk => by simp at hk; omega)⟩
set_option maxRecDepth 100000 in
set_option maxHeartbeats 3200000 in
theorem confClone_any (c : Cf) (w : World) (hc : c.ok w) (hn : c.v.len ≤ 1000000000000 ∧ c.l.len ≤ 1000000000000) :
    Calls Try.prog 58 #[.agg #[.slice c.v.a c.v.len c.v.cap, .slice c.l.a c.l.len c.l.cap]] w (RetConf w c.says) := by
  obtain ⟨X, hX⟩ : ∃ X, X = (w.alloc (.cells #[.slice c.v.a c.v.len c.v.cap, .slice c.l.a c.l.len c.l.cap] 26)).alloc (.cells #[.slice none 0 0, .slice none 0 0] 26) := ⟨_, rfl⟩
  have hXb : Below w.heap.size w X := hX ▸ below_alloc (below_alloc (Below.refl _ _) _) _
  have hXs : X.heap.size = w.heap.size + 2 := by rw [hX, World.size_alloc, World.size_alloc]
  have hA : X.heap[w.heap.size]? = some (.cells #[.slice c.v.a c.v.len c.v.cap, .slice c.l.a c.l.len c.l.cap] 26 (0, 0)) := hX ▸ (heap_alloc_old _ _ (by simp)).trans (heap_alloc_new w _)
  have hB : X.heap[w.heap.size + 1]? = some (.cells #[.slice none 0 0, .slice none 0 0] 26 (0, 0)) := hX ▸ alloc_new1 w _ _
  have hce : ∀ w', Below X.heap.size X w' → (w'.cell? ⟨w.heap.size, 0, none⟩ = some (.slice c.v.a c.v.len c.v.cap) ∧ w'.cell? ⟨w.heap.size, 1, none⟩ = some (.slice c.l.a c.l.len c.l.cap)) := fun w' hb => by
    obtain ⟨x0, x1, _, _⟩ := two_cells ((hb.block w.heap.size (by omega)).trans hA)
    exact ⟨x0, x1⟩
  have h1 := fun Z (hZ : Below X.heap.size X Z) => cloneZ_any c.v.a c.v.len c.v.cap c.v.zs Z ((hc.1.1.below hXb).below hZ) hc.1.2 hn.1
  have h2 := fun Z (hZ : Below X.heap.size X Z) => cloneZ_any c.l.a c.l.len c.l.cap c.l.zs Z ((hc.2.1.below hXb).below hZ) hc.2.2 hn.2
  have H1 := Lib.hid h1
  have H2 := Lib.hid h2
  have HCE := Lib.hid hce
  have HX := Lib.hid hX
  have HXB := Lib.hid hXb
  have HB := Lib.hid hB
  clear h1 h2 hce hA hB hXb hc hX
  go_enter Try.func58, Try.ntmps58
  go_wp2_with fail
  rw [← HX.out]
  go_region_held3 (fun w' => w'.cell? ⟨w.heap.size, 0, none⟩ = some (.slice c.v.a c.v.len c.v.cap) ∧ w'.cell? ⟨w.heap.size, 1, none⟩ = some (.slice c.l.a c.l.len c.l.cap))
    (first | exact HCE.out _ hX2 | exact HCE.out _ hX1 | exact HCE.out _ (Below.refl _ _).drew | go_keep)
    (first
      | (go_at_call 91; refine (H2.out _ hX1).mono ?_; rintro e w2 ⟨a2, c2, rfl, ho2, hb2⟩; have hX2 : Below X.heap.size X w2 := below_then hX1 hb2; obtain ⟨z0, z1, y0, y1⟩ := two_cells ((hX2.block (w.heap.size + 1) (by omega)).trans HB.out); have HO2 := Lib.hid ho2; have HB2 := Lib.hid hb2; clear ho2 hb2)
      | (go_at_call 91; refine (H1.out _ (Below.refl _ _).drew).mono ?_; rintro e w1 ⟨a1, c1, rfl, ho1, hb1⟩; have hX1 : Below X.heap.size X w1 := below_then (Below.refl _ _).drew hb1; have HO1 := Lib.hid ho1; have HB1 := Lib.hid hb1; clear ho1 hb1))
  go_wp2_with fail
  obtain ⟨e1, e2⟩ := conf_last (w := w) (B := w.heap.size + 1) (c := ⟨⟨a1, c.v.len, c1, c.v.zs⟩, ⟨a2, c.l.len, c2, c.l.zs⟩⟩) (says := c.says) rfl (own_more (own_keep HO1.out fun g _ hl => HB2.out.block g hl) (by rw [size_drew]; omega)) (own_more HO2.out (by have := hX1.size; omega)) (by omega) (below_then HXB.out (hX2)) ((hX2.block (w.heap.size + 1) (by omega)).trans HB.out)
  exact bodyPost_ret (results_cell Try.results58 rfl (load_conf e1)) rfl e2
def clampN (x : Int) : Int := if x < 0 then 0 else if 1099511627776 < x then 1099511627776 else x
theorem clampN_le (x : Int) : 0 ≤ clampN x ∧ clampN x ≤ 1099511627776 := by unfold clampN; split <;> (try split) <;> omega
theorem clampN_cases (x : Int) : (x < 0 ∧ clampN x = 0) ∨ (¬ x < 0 ∧ 1099511627776 < x ∧ clampN x = 1099511627776) ∨ (¬ x < 0 ∧ ¬ 1099511627776 < x ∧ clampN x = x) := by
  unfold clampN
  split
  · exact .inl ⟨by omega, rfl⟩
  · split
    · exact .inr (.inl ⟨by omega, by omega, rfl⟩)
    · exact .inr (.inr ⟨by omega, by omega, rfl⟩)
set_option maxRecDepth 100000 in
set_option maxHeartbeats 3200000 in
theorem rnew_any (ix tm : Int) (c : Cf) (w : World) (hc : c.ok w) (hn : c.v.len ≤ 1000000000000 ∧ c.l.len ≤ 1000000000000) :
    Calls Try.prog 20 #[.int .i64 ix, .int .i64 tm, .agg #[.slice c.v.a c.v.len c.v.cap, .slice c.l.a c.l.len c.l.cap]] w fun e w' =>
      ∃ N c', e = .returned (.pointer (some ⟨N, 0, none⟩)) ∧ LogAt w' w.heap.size N (clampN ix) (clampN tm) c' [] none 0 0 ∧ c'.says = c.says ∧ Below w.heap.size w w' := by
  have h1 := confClone_any c (w.alloc (.cells #[.slice c.v.a c.v.len c.v.cap, .slice c.l.a c.l.len c.l.cap] 26)) (hc.below ((Below.refl _ _).alloc (Nat.le_refl _) _)) hn
  have H1 := Lib.hid h1
  clear h1 hc
  obtain ⟨ci, hi⟩ : ∃ ci, ci = clampN ix := ⟨_, rfl⟩
  obtain ⟨ct, ht⟩ : ∃ ct, ct = clampN tm := ⟨_, rfl⟩
  have hci := clampN_cases ix
  have hct := clampN_cases tm
  rw [← hi] at hci ⊢
  rw [← ht] at hct ⊢
  clear hi ht
  rcases hci with ⟨i1, rfl⟩ | ⟨i1, i2, rfl⟩ | ⟨i1, i2, rfl⟩ <;> rcases hct with ⟨t1, rfl⟩ | ⟨t1, t2, rfl⟩ | ⟨t1, t2, rfl⟩
  all_goals
    go_enter Try.func20, Try.ntmps20
    go_wp2_with fail
    refine H1.out.mono ?_
    rintro e w2 ⟨c', rfl, hs, hv, hl, hb⟩
    have hb2 := below_then ((Below.refl _ _).alloc (Nat.le_refl _) _) hb
    have HV := Lib.hid hv
    have HL := Lib.hid hl
    have HS := Lib.hid hs
    have HB := Lib.hid hb2
    clear hv hl hs hb hb2
    go_wp2_with fail
    go_ret
    exact ⟨w2.heap.size, c', rfl, ⟨HB.out.size, heap_alloc_new _ _, own_more (own_keep HV.out fun g _ hl => heap_alloc_old _ _ hl) (by simp), own_more (own_keep HL.out fun g _ hl => heap_alloc_old _ _ hl) (by simp), rfl, World.ownsRow_nil _ _ _ _, fun e he => by cases he⟩, HS.out, below_alloc HB.out _⟩
end Go.Proofs.Ytcejamblndilbaa
