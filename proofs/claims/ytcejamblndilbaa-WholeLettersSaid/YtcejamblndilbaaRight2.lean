/- conf.Right: the whole. -/
import Derived.Test.YtcejamblndilbaaRight
import Derived.Test.YtcejamblndilbaaRdr
namespace Go.Proofs.Ytcejamblndilbaa
open Go.RowKit

/-- an index, or -1 -/
def RetIdx (w : World) (P : Prop) (e : Ending) (w' : World) : Prop := ∃ i : Int, e = .returned (.int .i64 i) ∧ (0 ≤ i ↔ P) ∧ ∃ q, w' = w.drewN q

set_option maxRecDepth 100000 in
set_option maxHeartbeats 3200000 in
theorem index_any (a : Option Addr) (n cap : Nat) (zs : List Int) (z : Int) (w : World) (hr : RowN w a 1 n (cellsZ zs)) (hn : n ≤ 9223372036854775807) :
    Calls Try.prog 93 #[.slice a n cap, .int .i64 z] w (RetIdx w (z ∈ zs)) := by
  have hl : zs.length = n := by have := hr.1; rw [cellsZ_len] at this; omega
  have HR := Lib.hid hr
  have HL := Lib.hid hl
  clear hr hl
  go_enter Try.func93, Try.ntmps93
  go_wp2_with fail
  go_loopw [8] (fun i wr => ∃ (k q : Nat), k ≤ n ∧ i = .int .i64 k ∧ Hid (z ∈ zs ↔ z ∈ zs.drop k) ∧ wr = w.drewN q) (fun i _ => n - (intOf i).toNat)
  case atStart => exact ⟨0, 0, Nat.zero_le _, rfl, Iff.rfl, rfl⟩
  case round =>
    obtain ⟨k, q, hk, rfl, HG, rfl⟩ := hrel
    by_cases hlt : k < n
    · obtain ⟨b, off, y, rfl, hy, hc⟩ := cellZ_at HR.out k hlt
      have hkn : (k : Int) < (n : Int) := by omega
      have hd := drop_z hy
      have HD := Lib.hid hd
      clear hd hy
      by_cases hzy : z = y
      · subst hzy
        go_wp2_with fail
        try go_quiet (fail)
        try go_wp2_with fail
        go_ret
        exact ⟨k, rfl, ⟨fun _ => HG.out.2 (by rw [HD.out]; exact List.mem_cons_self ..), fun _ => by omega⟩, _, by first | rfl | simp⟩
      · have hne : (z == y) = false := beq_eq_false_iff_ne.2 hzy
        go_wp2_with fail
        try go_quiet (fail)
        try go_wp2_with fail
        go_roundw
        case rel =>
          refine ⟨k + 1, _, by omega, by go_num, HG.out.trans ?_, by first | rfl | simp⟩
          rw [HD.out, List.mem_cons]
          exact ⟨fun h => h.resolve_left hzy, .inr⟩
        case measure => simp [intOf]; omega
    · have hd : zs.drop k = [] := List.drop_of_length_le (by rw [HL.out]; omega)
      have HD := Lib.hid hd
      clear hd
      go_wp2_with fail
      go_ret
      exact ⟨-1, rfl, ⟨fun h => absurd h (by decide), fun h => by have h1 := HG.out.1 h; rw [HD.out] at h1; cases h1⟩, q, rfl⟩

theorem contains_any (a : Option Addr) (n cap : Nat) (zs : List Int) (z : Int) (w : World) (hr : RowN w a 1 n (cellsZ zs)) (hn : n ≤ 9223372036854775807) :
    Calls Try.prog 62 #[.slice a n cap, .int .i64 z] w (RetQuiet w (.bool (decide (z ∈ zs)))) := by
  have h1 := index_any a n cap zs z w hr hn
  have H1 := Lib.hid h1
  clear h1 hr
  go_enter Try.func62, Try.ntmps62
  go_wp2_with fail
  refine H1.out.mono ?_
  rintro e w2 ⟨i, rfl, hi, q, rfl⟩
  go_wp2_with fail
  go_ret
  exact ⟨by simp, q, rfl⟩

/-- the closure of Right -/
theorem right1_any (C : Nat) (s : Is) (z : Int) (w : World) (hC : w.cell? ⟨C, 1, none⟩ = some (.slice s.a s.len s.cap)) (hr : RowN w s.a 1 s.len (cellsZ s.zs)) (hn : s.len ≤ 9223372036854775807) :
    Calls Try.prog 76 #[.int .i64 z, .pointer (some ⟨C, 0, none⟩)] w (RetQuiet w (.bool (decide (z ∈ s.zs)))) := by
  have h1 := contains_any s.a s.len s.cap s.zs z w hr hn
  have H1 := Lib.hid h1
  clear h1 hr
  go_enter Try.func76, Try.ntmps76
  go_wp2_with fail
  refine H1.out.mono ?_
  rintro e w2 ⟨rfl, q, rfl⟩
  go_wp2_with fail
  go_ret
  exact ⟨rfl, q, rfl⟩

set_option maxRecDepth 100000 in
set_option maxHeartbeats 3200000 in
theorem indexFunc_any (K : FuncId) (caps : Array Value) (p : Int → Bool) (a : Option Addr) (n cap : Nat) (zs : List Int) (w : World) (hr : RowN w a 1 n (cellsZ zs)) (hn : n ≤ 9223372036854775807)
    (hcf : ∀ (args : Array Value) (w : World), (callFunc K args).run Try.prog w = .ok (.enter K args) w) (hK : ∀ z q, Calls Try.prog K (#[.int .i64 z] ++ caps) (w.drewN q) (RetQuiet (w.drewN q) (.bool (p z)))) :
    Calls Try.prog 99 #[.slice a n cap, .func (.func K) #[] caps] w (RetIdx w (zs.any p = true)) := by
  have hmf : ∀ (fn : Fn) (first cap : Array Value) (w : World), (Instr.makeFunc fn first cap).run Try.prog w = .ok (.func fn first cap) w := fun _ _ _ _ => rfl
  have hl : zs.length = n := by have := hr.1; rw [cellsZ_len] at this; omega
  have HR := Lib.hid hr
  have HL := Lib.hid hl
  have HK := Lib.hid hK
  clear hr hl hK
  go_enter Try.func99, Try.ntmps99
  go_wp2_with fail
  go_loopw [8] (fun i wr => ∃ (k q : Nat), k ≤ n ∧ i = .int .i64 k ∧ Hid (zs.any p = (zs.drop k).any p) ∧ wr = w.drewN q) (fun i _ => n - (intOf i).toNat)
  case atStart => exact ⟨0, 0, Nat.zero_le _, rfl, rfl, rfl⟩
  case round =>
    obtain ⟨k, q, hk, rfl, HG, rfl⟩ := hrel
    by_cases hlt : k < n
    · obtain ⟨b, off, y, rfl, hy, hc⟩ := cellZ_at HR.out k hlt
      have hkn : (k : Int) < (n : Int) := by omega
      have hd := drop_z hy
      have HD := Lib.hid hd
      have hcy := HK.out y q
      have HCY := Lib.hid hcy
      have hc2 : (w.drewN q).cell? ⟨b, off + k, none⟩ = some (.int .i64 y) := hc
      clear hd hy hcy
      go_wp2_with fail
      refine HCY.out.mono ?_
      rintro e w2 ⟨rfl, q2, rfl⟩
      cases hp : p y with
      | true =>
        go_wp2_with fail
        go_ret
        exact ⟨k, rfl, ⟨fun _ => by rw [HG.out, HD.out, List.any_cons, hp]; rfl, fun _ => by omega⟩, q + q2, by simp⟩
      | false =>
        have ha : zs.any p = (zs.drop (k + 1)).any p := by rw [HG.out, HD.out, List.any_cons, hp]; rfl
        have HA := Lib.hid ha
        clear ha
        go_wp2_with fail
        go_roundw
        case rel => exact ⟨k + 1, q + q2, by omega, by go_num, HA.out, by simp⟩
        case measure => simp [intOf]; omega
    · have hd : zs.drop k = [] := List.drop_of_length_le (by rw [HL.out]; omega)
      have HD := Lib.hid hd
      clear hd
      go_wp2_with fail
      go_ret
      exact ⟨-1, rfl, ⟨fun h => absurd h (by decide), fun h => by rw [HG.out, HD.out] at h; cases h⟩, q, rfl⟩

theorem containsFunc_any (K : FuncId) (caps : Array Value) (p : Int → Bool) (a : Option Addr) (n cap : Nat) (zs : List Int) (w : World) (hr : RowN w a 1 n (cellsZ zs)) (hn : n ≤ 9223372036854775807)
    (hcf : ∀ (args : Array Value) (w : World), (callFunc K args).run Try.prog w = .ok (.enter K args) w) (hK : ∀ z q, Calls Try.prog K (#[.int .i64 z] ++ caps) (w.drewN q) (RetQuiet (w.drewN q) (.bool (p z)))) :
    Calls Try.prog 75 #[.slice a n cap, .func (.func K) #[] caps] w (RetQuiet w (.bool (zs.any p))) := by
  have h1 := indexFunc_any K caps p a n cap zs w hr hn hcf hK
  have H1 := Lib.hid h1
  clear h1 hr hK hcf
  go_enter Try.func75, Try.ntmps75
  go_wp2_with fail
  refine H1.out.mono ?_
  rintro e w2 ⟨i, rfl, hi, q, rfl⟩
  have HI := Lib.hid hi
  clear hi
  go_wp2_with fail
  go_ret
  refine ⟨congrArg Ending.returned (congrArg Value.bool ?_), q, rfl⟩
  cases hz : zs.any p with
  | true => exact decide_eq_true (HI.out.2 hz)
  | false => exact decide_eq_false (fun h => by have := HI.out.1 h; rw [hz] at this; cases this)

def confRight (v l : List Int) : Bool := risingB v && risingB l && decide (0 < v.length) && !(v.any fun z => decide (z ∈ l))

theorem enters_right1 (args : Array Value) (w : World) : (callFunc 76 args).run Try.prog w = .ok (.enter 76 args) w := enters Try.func76 (by kernel_rfl) rfl args w

set_option maxRecDepth 100000 in
set_option maxHeartbeats 3200000 in
theorem confRight_any (c : Cf) (w : World) (hc : c.ok w) (hn : c.v.len ≤ 9223372036854775807 ∧ c.l.len ≤ 9223372036854775807) :
    Calls Try.prog 38 #[.agg #[.slice c.v.a c.v.len c.v.cap, .slice c.l.a c.l.len c.l.cap]] w (RetBox w (.bool (confRight c.v.zs c.l.zs))) := by
  obtain ⟨⟨va, vl, vc, vz⟩, ⟨la, ll, lc, lz⟩⟩ := c
  simp only at hn ⊢
  obtain ⟨X, hX⟩ : ∃ X, X = w.alloc (.cells #[.slice va vl vc, .slice la ll lc] 26) := ⟨_, rfl⟩
  have hXb : Below w.heap.size w X := hX ▸ below_alloc (Below.refl _ _) _
  have hA : X.heap[w.heap.size]? = some (.cells #[.slice va vl vc, .slice la ll lc] 26 (0, 0)) := hX ▸ heap_alloc_new w _
  obtain ⟨x0, x1, _, _⟩ := two_cells hA
  have hcX := hc.below hXb
  have hlv : vz.length = vl := by have h := hc.1.1.1; rw [cellsZ_len] at h; simpa using h
  have h1 := fun q => rising_any va vl vc vz (X.drewN q) (hcX.1.1.drewN q) hn.1
  have h2 := fun q => rising_any la ll lc lz (X.drewN q) (hcX.2.1.drewN q) hn.2
  have h3 := fun q => containsFunc_any 76 #[.pointer (some ⟨w.heap.size, 0, none⟩)] (fun z => decide (z ∈ lz)) va vl vc vz (X.drewN q) (hcX.1.1.drewN q) hn.1 enters_right1 (fun z q2 => right1_any w.heap.size ⟨la, ll, lc, lz⟩ z ((X.drewN q).drewN q2) x1 ((hcX.2.1.drewN q).drewN q2) hn.2)
  have hmf : ∀ (fn : Fn) (first cap : Array Value) (w : World), (Instr.makeFunc fn first cap).run Try.prog w = .ok (.func fn first cap) w := fun _ _ _ _ => rfl
  have H1 := Lib.hid h1
  have H2 := Lib.hid h2
  have H3 := Lib.hid h3
  have HXB := Lib.hid hXb
  have HLV := Lib.hid hlv
  clear h1 h2 h3 hc hcX hA hXb hlv
  subst hX
  unfold confRight
  cases hv : risingB vz with
  | false =>
    rw [hv] at H1
    go_enter Try.func38, Try.ntmps38
    go_wp2_with fail
    refine (H1.out 0).mono ?_
    rintro e w2 ⟨rfl, q, rfl⟩
    go_wp2_with fail
    go_ret
    exact ⟨by simp, below_drewN HXB.out _⟩
  | true =>
    rw [hv] at H1
    cases hl : risingB lz with
    | false =>
      rw [hl] at H2
      go_enter Try.func38, Try.ntmps38
      go_wp2_with fail
      refine (H1.out 0).mono ?_
      rintro e w2 ⟨rfl, q, rfl⟩
      go_wp2_with fail
      refine (H2.out q).mono ?_
      rintro e w2 ⟨rfl, q2, rfl⟩
      go_wp2_with fail
      go_ret
      exact ⟨by simp, below_drewN HXB.out _⟩
    | true =>
      rw [hl] at H2
      by_cases h0 : vl = 0
      · subst h0
        have hz0 : vz.length = 0 := HLV.out
        rw [hz0]
        clear hz0
        go_enter Try.func38, Try.ntmps38
        go_wp2_with fail
        refine (H1.out 0).mono ?_
        rintro e w2 ⟨rfl, q, rfl⟩
        go_wp2_with fail
        refine (H2.out q).mono ?_
        rintro e w2 ⟨rfl, q2, rfl⟩
        go_wp2_with fail
        go_ret
        exact ⟨by simp, below_drewN HXB.out _⟩
      · have hz0 : decide (0 < vz.length) = true := decide_eq_true (by rw [HLV.out]; omega)
        have hpos : (0 : Int) < (vl : Int) := by omega
        rw [hz0]
        obtain ⟨b, hb⟩ : ∃ b, b = (vz.any fun z => decide (z ∈ lz)) := ⟨_, rfl⟩
        rw [← hb] at H3 ⊢
        clear hb hz0
        go_enter Try.func38, Try.ntmps38
        go_wp2_with fail
        refine (H1.out 0).mono ?_
        rintro e w2 ⟨rfl, q, rfl⟩
        go_wp2_with fail
        refine (H2.out q).mono ?_
        rintro e w2 ⟨rfl, q2, rfl⟩
        go_wp2_with fail
        refine (H3.out (q + q2)).mono ?_
        rintro e w2 ⟨rfl, q3, rfl⟩
        go_wp2_with fail
        go_ret
        exact ⟨by simp, below_drewN HXB.out _⟩
end Go.Proofs.Ytcejamblndilbaa
