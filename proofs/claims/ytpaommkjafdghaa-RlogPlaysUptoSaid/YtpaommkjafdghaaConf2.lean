/- ConfAt, Conf; the entries' shallow clone. -/
import Derived.Test.YtpaommkjafdghaaConfAt
namespace Go.Proofs.Ytpaommkjafdghaa
open Go.RowKit

theorem RetConf.own {w w' : World} {says : List Int × List Int} {v : Value} (h : RetConf w says (.returned v) w') : ∃ c : Cf, v = .agg #[.slice c.v.a c.v.len c.v.cap, .slice c.l.a c.l.len c.l.cap] ∧ c.says = says ∧ OwnZ w' w.heap.size c.v ∧ OwnZ w' w.heap.size c.l ∧ Below w.heap.size w w' := by
  obtain ⟨c, hv, h1, h2, h3, h4⟩ := h
  injection hv with hv
  exact ⟨c, hv, h1, h2, h3, h4⟩

set_option maxRecDepth 100000 in
set_option maxHeartbeats 3200000 in
theorem ConfAt_any (base N : Nat) (ix tm : Int) (c : Cf) (es : List En) (ae : Option Addr) (n cap : Nat) (i : Int) (w : World) (h : LogAt w base N ix tm c es ae n cap) (hn : n ≤ 2000000000000) (hcn : c.v.len ≤ 1000000000000 ∧ c.l.len ≤ 1000000000000) :
    Calls Try.prog 16 #[.pointer (some ⟨N, 0, none⟩), .int .i64 i] w (RetConf w (confAtOf ix c.says es i).1) := by
  have hX : Below w.heap.size w (w.alloc (.cells #[.slice none 0 0, .slice none 0 0] 27)) := below_alloc (Below.refl _ _) _
  have hl := confAt_any base N ix tm c es ae n cap i _ (h.below hX) hn hcn
  have hA := heap_alloc_new w (.cells #[.slice none 0 0, .slice none 0 0] 27)
  obtain ⟨r, hr⟩ : ∃ r, r = confAtOf ix c.says es i := ⟨_, rfl⟩
  rw [← hr] at hl ⊢
  have HL := Lib.hid hl
  have HX := Lib.hid hX
  have HA := Lib.hid hA
  clear hl h hr hX hA
  go_enter Try.func16, Try.ntmps16
  go_wp2_with fail
  refine HL.out.mono ?_
  rintro e w2 ⟨v, rfl, hc⟩
  obtain ⟨c', rfl, hs, h1, h2, hb⟩ := hc.own
  have hA2 := (hb.block _ (by rw [World.size_alloc]; omega)).trans HA.out
  have hA3 := alloc_far (o' := .cells #[.slice c'.v.a c'.v.len c'.v.cap, .slice c'.l.a c'.l.len c'.l.cap] 27) hA2 (lt_of_block hA2)
  obtain ⟨z0, z1, y0, y1⟩ := two_cells hA3
  have hz2 := hb.size
  rw [World.size_alloc] at h1 h2 hz2
  have HS := Lib.hid hs
  have H1 := Lib.hid h1
  have H2 := Lib.hid h2
  have HB := Lib.hid hb
  have HA3 := Lib.hid hA3
  clear hs h1 h2 hb hA2 hA3 hc
  have n1 : w2.heap.size ≠ w.heap.size := by omega
  have n2 : w.heap.size ≠ w2.heap.size := by omega
  go_wp2_with fail
  obtain ⟨e1, e2⟩ := conf_last (w := w) (B := w.heap.size) (c := c') HS.out (own_keep H1.out fun g _ hl => alloc_far rfl hl) (own_keep H2.out fun g _ hl => alloc_far rfl hl) (Nat.le_refl _) (below_alloc (below_then HX.out HB.out) _) HA3.out
  exact bodyPost_ret (results_cell Try.results16 rfl (load_conf e1)) rfl e2

set_option maxRecDepth 100000 in
set_option maxHeartbeats 3200000 in
theorem Conf_any (base N : Nat) (ix tm : Int) (c : Cf) (es : List En) (ae : Option Addr) (n cap : Nat) (w : World) (h : LogAt w base N ix tm c es ae n cap) (hn : n ≤ 2000000000000) (hcn : c.v.len ≤ 1000000000000 ∧ c.l.len ≤ 1000000000000) :
    Calls Try.prog 13 #[.pointer (some ⟨N, 0, none⟩)] w fun e w' => ∃ v, e = .returned (.tuple #[v, .int .i64 (confAtOf ix c.says es (lastOf ix tm es).1).2]) ∧ RetConf w (confAtOf ix c.says es (lastOf ix tm es).1).1 (.returned v) w' := by
  have hX : Below w.heap.size w (w.alloc (.cells #[.slice none 0 0, .slice none 0 0] 27)) := below_alloc (Below.refl _ _) _
  have hA := heap_alloc_new w (.cells #[.slice none 0 0, .slice none 0 0] 27)
  have hl := last_any base N ix tm c es ae n cap _ (h.below hX) hn
  obtain ⟨⟨i, t⟩, hi⟩ : ∃ x, x = lastOf ix tm es := ⟨_, rfl⟩
  rw [← hi] at hl ⊢
  simp only at hl ⊢
  have hcf := fun Z (hZ : Below w.heap.size w Z) => confAt_any base N ix tm c es ae n cap i Z (h.below hZ) hn hcn
  obtain ⟨r, hr⟩ : ∃ r, r = confAtOf ix c.says es i := ⟨_, rfl⟩
  rw [← hr] at hcf ⊢
  have HL := Lib.hid hl
  have HCF := Lib.hid hcf
  have HX := Lib.hid hX
  have HA := Lib.hid hA
  clear hl h hr hX hA hcf hi
  go_enter Try.func13, Try.ntmps13
  go_wp2_with fail
  refine HL.out.mono ?_
  rintro e w1 ⟨rfl, hb1⟩
  have hb01 := below_then HX.out hb1
  have hA1 := (hb1.block _ (by rw [World.size_alloc]; omega)).trans HA.out
  have hz1 := lt_of_block hA1
  have HB01 := Lib.hid hb01
  have HA1 := Lib.hid hA1
  clear hb1 hb01 hA1
  go_wp2_with fail
  refine (HCF.out _ HB01.out).mono ?_
  rintro e w2 ⟨v, rfl, hc⟩
  obtain ⟨c', rfl, hs, h1, h2, hb⟩ := hc.own
  have hA2 := (hb.block _ hz1).trans HA1.out
  obtain ⟨z0, z1, y0, y1⟩ := two_cells hA2
  have HS := Lib.hid hs
  have H1 := Lib.hid h1
  have H2 := Lib.hid h2
  have HB := Lib.hid hb
  have HA2 := Lib.hid hA2
  clear hs h1 h2 hb hA2 hc
  go_wp2_with fail
  obtain ⟨e1, e2⟩ := conf_last (w := w) (B := w.heap.size) (c := c') HS.out (own_more H1.out (by omega)) (own_more H2.out (by omega)) (Nat.le_refl _) (below_then HB01.out HB.out) HA2.out
  exact bodyPost_ret (results_cell_tmp Try.results13 rfl (load_conf e1)) rfl ⟨_, rfl, e2⟩

/-- It returns a row of entries that holds these cells, in memory of its own. -/
def RetRowE (w : World) (n : Nat) (vs : List Value) (e : Ending) (w' : World) : Prop :=
  ∃ a c, e = .returned (.slice a n c) ∧ w'.ownsRow w.heap.size 32 4 (.slice a n c) n vs ∧ Below w.heap.size w w'
theorem cells_all4 (es : List En) : ∀ u ∈ es.flatMap En.cells, u.oneCell' = true := fun u hu => by
  obtain ⟨e, _, hu⟩ := List.mem_flatMap.1 hu
  exact cells_one4 e u hu

set_option maxHeartbeats 1600000 in
theorem cloneE_any (a : Option Addr) (len cap : Nat) (es : List En) (w : World) (hr : RowN w a 4 len (es.flatMap En.cells)) (hn : a = none → len = 0 ∧ cap = 0) (hl : len ≤ 2000000000000) :
    Calls Try.prog 34 #[.slice a len cap] w (RetRowE w len (es.flatMap En.cells)) := by
  have heq := fun (w : World) (a : Option Addr) (n c : Nat) => Lib.run_eql_slice_nil (P := Try.prog) w 22 32 a n c 0 0 Try.underlying22
  cases a with
  | none =>
    obtain ⟨rfl, rfl⟩ := hn rfl
    have hnil : es.flatMap En.cells = [] := List.eq_nil_of_length_eq_zero (by have := hr.1; omega)
    rw [hnil]
    clear hr
    go_enter Try.func34, Try.ntmps34
    go_wp2
    go_ret
    exact ⟨_, _, rfl, World.ownsRow_nil _ _ _ _, Below.refl _ _⟩
  | some ad =>
    have HR := Lib.hid hr
    clear hr hn
    have hown0 := World.ownsRow_lit (base := w.heap.size) (e := 32) (size := 4) w #[] 0 (Nat.le_refl _) (by simp [maxLen]) rfl
    go_enter Try.func34, Try.ntmps34
    go_wp2_with (at_builtin; refine wpList_appendE rfl (.tmp 5) (.tmp 6) rfl w.heap.size (some ⟨w.heap.size, 0, none⟩) 0 0 [] rfl hown0 (some ad) len cap (es.flatMap En.cells) rfl (HR.out.alloc _) (fun h => by cases h) (cells_all4 _) (by omega) (by simp) len (by omega) ?_; intro ao' cap' w1 hown hg hat; rw [List.nil_append] at hown)
    go_ret
    exact ⟨_, _, rfl, hown, ((Below.refl _ _).alloc (Nat.le_refl _) _).grown hg (by simp) (fun k hk => by simp [Value.ownBlock] at hk; omega)⟩
end Go.Proofs.Ytpaommkjafdghaa
