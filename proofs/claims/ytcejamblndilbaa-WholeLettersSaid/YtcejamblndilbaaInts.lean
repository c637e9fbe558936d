/- Slices of numbers, and configurations. -/
import Derived.Test.YtcejamblndilbaaLog1
namespace Go.Proofs.Ytcejamblndilbaa
open Go.RowKit

theorem info_int : (Try.prog.info? 3).map (fun i => (i.zero, i.size, i.bytes)) = some (some (.int .i64 0), 1, 8) := by kernel_rfl
theorem wpList_appendZ {w : World} {ops : Array Oper} {rest : List Oper} {o : Oper} {a : Act} {Q : Exit → Act → World → Prop} (hgd : o.guard = none) (s x : Operand)
    (ho : o.op = .call { callee := .builtin .append, args := #[s, x], argTypes := #[24, 24] })
    (base : Nat) (ao : Option Addr) (n cap : Nat) (vs : List Value) (hs : a.eval s = .slice ao n cap) (hown : w.ownsRow base 3 1 (.slice ao n cap) n vs)
    (ax : Option Addr) (m c : Nat) (xs : List Value) (hx : a.eval x = .slice ax m c) (hrow : RowN w ax 1 m xs) (hnil : ax = none → c = 0) (h1 : ∀ u ∈ xs, u.oneCell' = true) (hbig : n + m ≤ 1000000000000) (hbase : base ≤ w.heap.size) (N : Nat) (hN : n + m = N)
    (h : ∀ ao' cap' w', w'.ownsRow base 3 1 (.slice ao' N cap') N (vs ++ xs) → w.grownBy w' (Value.ownBlock (.slice ao n cap)) →
      (Value.ownBlock (.slice ao' N cap') = Value.ownBlock (.slice ao n cap) ∨ Value.ownBlock (.slice ao' N cap') = some w.heap.size) → wpList Try.prog ops Q rest (a.put o.dst (.slice ao' N cap')) w') : wpList Try.prog ops Q (o :: rest) a w := by
  obtain ⟨i0, hi, hz0, hz1, hz2⟩ := info_parts info_int
  exact wpList_append_row hgd s x _ ho base 3 i0 _ 1 8 Try.underlying24 hi hz0 hz1 hz2 rfl (by decide) ao n cap vs hs hown ax m c xs hx hrow.1 hrow.news hnil h1 (by simp only [maxLen]; omega) (by omega) hbase N hN h
theorem cellsZ_one (zs : List Int) : ∀ u ∈ cellsZ zs, u.oneCell' = true := fun u hu => by
  obtain ⟨z, _, rfl⟩ := List.mem_map.1 hu
  rfl
theorem cellsZ_len (zs : List Int) : (cellsZ zs).length = zs.length := List.length_map ..
theorem cellZ_at {w : World} {a : Option Addr} {n : Nat} {zs : List Int} (hr : RowN w a 1 n (cellsZ zs)) (k : Nat) (hk : k < n) : ∃ b off z, a = some ⟨b, off, none⟩ ∧ zs[k]? = some z ∧ w.cell? ⟨b, off + k, none⟩ = some (.int .i64 z) := by
  obtain ⟨b, off, ha, hc⟩ := hr.2 (by omega)
  have hl : zs.length = n := by have := hr.1; rw [cellsZ_len] at this; omega
  refine ⟨b, off, zs[k]'(by omega), ha, List.getElem?_eq_getElem _, hc k _ ?_⟩
  simp [cellsZ, List.getElem?_eq_getElem (show k < zs.length by omega)]

/-- It returns numbers, in memory of its own. -/
def RetInts (w : World) (n : Nat) (zs : List Int) (e : Ending) (w' : World) : Prop :=
  ∃ a c, e = .returned (.slice a n c) ∧ OwnZ w' w.heap.size ⟨a, n, c, zs⟩ ∧ Below w.heap.size w w'

set_option maxHeartbeats 1600000 in
theorem cloneZ_any (a : Option Addr) (len cap : Nat) (zs : List Int) (w : World) (hr : RowN w a 1 len (cellsZ zs)) (hn : a = none → len = 0 ∧ cap = 0) (hl : len ≤ 1000000000000) :
    Calls Try.prog 91 #[.slice a len cap] w (RetInts w len zs) := by
  have heq := fun (w : World) (a : Option Addr) (n c : Nat) => Lib.run_eql_slice_nil (P := Try.prog) w 24 3 a n c 0 0 Try.underlying24
  cases a with
  | none =>
    obtain ⟨rfl, rfl⟩ := hn rfl
    obtain rfl : zs = [] := List.eq_nil_of_length_eq_zero (by have := hr.1; rw [cellsZ_len] at this; omega)
    clear hr
    go_enter Try.func91, Try.ntmps91
    go_wp2
    go_ret
    exact ⟨_, _, rfl, World.ownsRow_nil _ _ _ _, Below.refl _ _⟩
  | some ad =>
    have HR := Lib.hid hr
    clear hr hn
    have hown0 := World.ownsRow_lit (base := w.heap.size) (e := 3) (size := 1) w #[] 0 (Nat.le_refl _) (by simp [maxLen]) rfl
    go_enter Try.func91, Try.ntmps91
    go_wp2_with (at_builtin; refine wpList_appendZ rfl (.tmp 5) (.tmp 6) rfl w.heap.size (some ⟨w.heap.size, 0, none⟩) 0 0 [] rfl hown0 (some ad) len cap (cellsZ zs) rfl (HR.out.alloc _) (fun h => by cases h) (cellsZ_one _) (by omega) (by simp) len (by omega) ?_; intro ao' cap' w1 hown hg hat; rw [List.nil_append] at hown)
    go_ret
    exact ⟨_, _, rfl, hown, ((Below.refl _ _).alloc (Nat.le_refl _) _).grown hg (by simp) (fun k hk => by simp [Value.ownBlock] at hk; omega)⟩

set_option maxHeartbeats 1600000 in
theorem sameInts_any (a b : Option Addr) (n m cn cm : Nat) (xs ys : List Int) (w : World) (hx : RowN w a 1 n (cellsZ xs)) (hy : RowN w b 1 m (cellsZ ys)) (hn : n ≤ 9223372036854775807) :
    Calls Try.prog 86 #[.slice a n cn, .slice b m cm] w (RetQuiet w (.bool (decide (xs = ys)))) := by
  have hxl : xs.length = n := by have := hx.1; rw [cellsZ_len] at this; omega
  have hyl : ys.length = m := by have := hy.1; rw [cellsZ_len] at this; omega
  have HX := Lib.hid hx
  have HY := Lib.hid hy
  have HXL := Lib.hid hxl
  have HYL := Lib.hid hyl
  clear hx hy hxl hyl
  by_cases hnm : n = m
  · subst hnm
    go_enter Try.func86, Try.ntmps86
    go_wp2
    go_loopw [5] (fun i wr => ∃ (k q : Nat), k ≤ n ∧ i = .int .i64 k ∧ Hid (xs.take k = ys.take k) ∧ wr = w.drewN q) (fun i _ => n - (intOf i).toNat)
    case atStart => exact ⟨0, 0, Nat.zero_le _, rfl, rfl, rfl⟩
    case round =>
      obtain ⟨k, q, hk, rfl, htk, rfl⟩ := hrel
      by_cases hlt : k < n
      · obtain ⟨b1, o1, x, rfl, hxk, hcell⟩ := cellZ_at HX.out k hlt
        obtain ⟨b2, o2, y, rfl, hyk, hdell⟩ := cellZ_at HY.out k hlt
        have hkn : (k : Int) < (n : Int) := by omega
        have hk0 : (0 : Int) ≤ (k : Int) := by omega
        have hnat : ((k : Int)).toNat = k := by omega
        by_cases hcd : x = y
        · subst hcd
          have HXK := Lib.hid hxk
          have HYK := Lib.hid hyk
          clear hxk hyk
          go_wp2
          go_quiet (fail)
          go_wp2
          go_roundw
          case rel =>
            refine ⟨k + 1, q + nq, by omega, by go_num, ?_, by simp⟩
            show _ = _
            rw [List.take_add_one, List.take_add_one, htk.out, HXK.out, HYK.out]
          case measure => simp [intOf]; omega
        · have hne : (x != y) = true := by simp; exact hcd
          have hxy : xs ≠ ys := fun e => hcd (by rw [e, hyk] at hxk; injection hxk with h; exact h.symm)
          have HXY := Lib.hid hxy
          clear hxk hyk hxy
          go_wp2
          go_quiet (fail)
          go_wp2
          go_ret
          refine ⟨?_, q + nq, by simp⟩
          rw [decide_eq_false HXY.out]
          rfl
      · go_wp2
        go_ret
        have hke : k = n := by omega
        subst hke
        refine ⟨?_, q, rfl⟩
        have hx2 := htk.out
        rw [List.take_of_length_le (by rw [HXL.out]; omega), List.take_of_length_le (by rw [HYL.out]; omega)] at hx2
        rw [decide_eq_true hx2]
        rfl
  · have hne : ((n : Int) != (m : Int)) = true := by simp; omega
    go_enter Try.func86, Try.ntmps86
    go_wp2
    go_ret
    refine ⟨?_, 0, rfl⟩
    have : xs ≠ ys := fun e => hnm (by rw [← HXL.out, ← HYL.out, e])
    rw [decide_eq_false this]
    rfl

/-- a configuration that is only read -/
def Cf.ok (w : World) (c : Cf) : Prop := (RowN w c.v.a 1 c.v.len (cellsZ c.v.zs) ∧ (c.v.a = none → c.v.len = 0 ∧ c.v.cap = 0)) ∧ (RowN w c.l.a 1 c.l.len (cellsZ c.l.zs) ∧ (c.l.a = none → c.l.len = 0 ∧ c.l.cap = 0))
theorem Cf.ok.below {w w' : World} {c : Cf} (h : c.ok w) (hb : Below w.heap.size w w') : c.ok w' := ⟨⟨h.1.1.below hb, h.1.2⟩, ⟨h.2.1.below hb, h.2.2⟩⟩
def Cf.says (c : Cf) : List Int × List Int := (c.v.zs, c.l.zs)
def Cf.val (c : Cf) : Value := .agg #[.slice c.v.a c.v.len c.v.cap, .slice c.l.a c.l.len c.l.cap]
theorem OwnZ.row {w : World} {base : Nat} {s : Is} (h : OwnZ w base s) : RowN w s.a 1 s.len (cellsZ s.zs) := RowN.of_own h
theorem OwnZ.nil {w : World} {base : Nat} {s : Is} (h : OwnZ w base s) : s.a = none → s.len = 0 ∧ s.cap = 0 := fun e => by
  rcases h.2 with ⟨h1, h2⟩ | ⟨g, cp, cur, h1, _⟩
  · injection h1 with _ h3 h4
    exact ⟨h3, h4⟩
  · injection h1 with h3 _ _
    rw [e] at h3
    cases h3
theorem Cf.ok_of_own {w : World} {base : Nat} {c : Cf} (h1 : OwnZ w base c.v) (h2 : OwnZ w base c.l) : c.ok w := ⟨⟨h1.row, h1.nil⟩, ⟨h2.row, h2.nil⟩⟩

set_option maxRecDepth 100000 in
set_option maxHeartbeats 3200000 in
theorem confSame_any (c d : Cf) (w : World) (hc : c.ok w) (hd : d.ok w) (hn : c.v.len ≤ 9223372036854775807 ∧ c.l.len ≤ 9223372036854775807) :
    Calls Try.prog 48 #[.agg #[.slice c.v.a c.v.len c.v.cap, .slice c.l.a c.l.len c.l.cap], .agg #[.slice d.v.a d.v.len d.v.cap, .slice d.l.a d.l.len d.l.cap]] w (RetBox w (.bool (decide (c.says = d.says)))) := by
  have hb : Below w.heap.size w ((w.alloc (.cells #[.slice c.v.a c.v.len c.v.cap, .slice c.l.a c.l.len c.l.cap] 26)).alloc (.cells #[.slice d.v.a d.v.len d.v.cap, .slice d.l.a d.l.len d.l.cap] 26)) := below_alloc (below_alloc (Below.refl _ _) _) _
  have h1 := fun Z (hZ : Below w.heap.size w Z) => sameInts_any c.v.a d.v.a c.v.len d.v.len c.v.cap d.v.cap c.v.zs d.v.zs Z (hc.1.1.below hZ) (hd.1.1.below hZ) hn.1
  have h2 := fun Z (hZ : Below w.heap.size w Z) => sameInts_any c.l.a d.l.a c.l.len d.l.len c.l.cap d.l.cap c.l.zs d.l.zs Z (hc.2.1.below hZ) (hd.2.1.below hZ) hn.2
  have hv : decide (c.says = d.says) = (decide (c.v.zs = d.v.zs) && decide (c.l.zs = d.l.zs)) := by simp only [Cf.says, Prod.mk.injEq, Bool.decide_and]
  have H1 := Lib.hid h1
  have H2 := Lib.hid h2
  have HB := Lib.hid hb
  rw [hv]
  clear h1 h2 hb hc hd hv
  obtain ⟨p, hp⟩ : ∃ p, p = decide (c.v.zs = d.v.zs) := ⟨_, rfl⟩
  rw [← hp] at H1 ⊢
  clear hp
  cases p with
  | true =>
    go_enter Try.func48, Try.ntmps48
    go_wp2_with fail
    refine (H1.out _ HB.out).mono ?_
    rintro e w2 ⟨rfl, q, rfl⟩
    have HB2 := Lib.hid (below_drewN HB.out q)
    go_wp2_with fail
    refine (H2.out _ HB2.out).mono ?_
    rintro e w2 ⟨rfl, q2, rfl⟩
    go_wp2_with fail
    go_ret
    exact ⟨by simp, below_drewN HB.out _⟩
  | false =>
    go_enter Try.func48, Try.ntmps48
    go_wp2_with fail
    refine (H1.out _ HB.out).mono ?_
    rintro e w2 ⟨rfl, q, rfl⟩
    go_wp2_with fail
    go_ret
    exact ⟨by simp, below_drewN HB.out _⟩
end Go.Proofs.Ytcejamblndilbaa
