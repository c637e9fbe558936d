/- The document's right configurations and entries (out of rlog's texts). -/
import Derived.Test.YtcejamblndilbaaEns
import Derived.Test.YtcejamblndilbaaRight2
import Derived.Test.YtcejamblndilbaaInts
import Derived.BigQuiet
import Derived.BigRegion
namespace Go.Proofs.Ytcejamblndilbaa
open Go.RowKit

set_option maxRecDepth 100000 in
set_option maxHeartbeats 3200000 in
theorem rhasZ_any (a : Option Addr) (n cap : Nat) (zs : List Int) (x : Int) (w : World) (hr : RowN w a 1 n (cellsZ zs)) (hn : n ≤ 9223372036854775807) :
    Calls Try.prog 101 #[.slice a n cap, .int .i64 x] w (RetQuiet w (.bool (decide (x ∈ zs)))) := by
  have hl : zs.length = n := by have := hr.1; rw [cellsZ_len] at this; omega
  have HR := Lib.hid hr
  have HL := Lib.hid hl
  clear hr hl
  go_enter Try.func101, Try.ntmps101
  go_wp2_with fail
  go_loopw [5] (fun i wr => ∃ (k : Nat), k ≤ n ∧ i = .int .i64 k ∧ Hid (x ∈ zs ↔ x ∈ zs.drop k) ∧ wr = w) (fun i _ => n - (intOf i).toNat)
  case atStart => exact ⟨0, Nat.zero_le _, rfl, by show _ ↔ _; simp, rfl⟩
  case round =>
    obtain ⟨k, hk, rfl, HG, hwr⟩ := hrel
    subst hwr
    by_cases hlt : k < n
    · obtain ⟨b, off, z, rfl, hz, hc⟩ := cellZ_at HR.out k hlt
      have hkn : (k : Int) < (n : Int) := by omega
      have hd := drop_z hz
      have HD := Lib.hid hd
      have HZ := Lib.hid hz
      clear hd hz
      by_cases hzx : z = x
      · subst hzx
        go_wp2_with fail
        go_ret
        refine ⟨?_, 0, rfl⟩
        rw [decide_eq_true (List.mem_of_getElem? HZ.out)]
        rfl
      · have hne : (z == x) = false := by simp [hzx]
        have HG2 : Hid (x ∈ zs ↔ x ∈ zs.drop (k + 1)) := Lib.hid (by rw [HG.out, HD.out, List.mem_cons]; exact ⟨fun h => h.resolve_left (fun e => hzx e.symm), .inr⟩)
        clear hzx
        go_wp2_with fail
        go_roundw
        case rel => exact ⟨k + 1, by omega, by go_num, HG2, by first | rfl | trivial⟩
        case measure => simp [intOf]; omega
    · have hd : zs.drop k = [] := List.drop_of_length_le (by rw [HL.out]; omega)
      have hno : ¬ x ∈ zs := fun h => by have := HG.out.1 h; rw [hd] at this; cases this
      have HNO := Lib.hid hno
      clear hno hd
      go_wp2_with fail
      go_ret
      refine ⟨?_, 0, rfl⟩
      rw [decide_eq_false HNO.out]
      rfl
set_option maxRecDepth 100000 in
set_option maxHeartbeats 3200000 in
theorem rrising_any (a : Option Addr) (n cap : Nat) (zs : List Int) (w : World) (hr : RowN w a 1 n (cellsZ zs)) (hn : n ≤ 9223372036854775807) :
    Calls Try.prog 100 #[.slice a n cap] w (RetQuiet w (.bool (risingB zs))) := by
  have hl : zs.length = n := by have := hr.1; rw [cellsZ_len] at this; omega
  obtain ⟨v, hv⟩ : ∃ v, v = risingB zs := ⟨_, rfl⟩
  rw [← hv]
  have HR := Lib.hid hr
  have HL := Lib.hid hl
  have HV := Lib.hid hv
  clear hr hl hv
  go_enter Try.func100, Try.ntmps100
  go_wp2_with fail
  go_loopw [3] (fun i wr => ∃ (k q : Nat), k ≤ n ∧ i = .int .i64 k ∧ Hid (v = risingGo (prevZ zs k) (zs.drop k)) ∧ wr = w.drewN q) (fun i _ => n - (intOf i).toNat)
  case atStart => exact ⟨0, 0, Nat.zero_le _, rfl, HV.out, rfl⟩
  case round =>
    obtain ⟨k, q, hk, rfl, HG, rfl⟩ := hrel
    by_cases hlt : k < n
    · obtain ⟨b, off, z, rfl, hz, hc⟩ := cellZ_at HR.out k hlt
      have hkn : (k : Int) < (n : Int) := by omega
      have HZ := Lib.hid hz
      have hg2 : v = (decide (1 ≤ z) && decide (z ≤ 7) && (match prevZ zs k with | none => true | some y => decide (y < z)) && risingGo (prevZ zs (k + 1)) (zs.drop (k + 1))) := by
        rw [HG.out, drop_z hz, prevZ_succ hz]
        rfl
      have HG2 := Lib.hid hg2
      clear hg2 hz
      by_cases h1 : z < 1
      · have hv0 : v = false := by rw [HG2.out, decide_eq_false (show ¬ (1 ≤ z) by omega)]; rfl
        subst hv0
        have d1 : decide (z < 1) = true := decide_eq_true h1
        go_wp2_with fail
        go_quiet (fail)
        go_wp2_with fail
        go_ret
        exact ⟨rfl, q + nq, by simp⟩
      have d1 : decide (z < 1) = false := decide_eq_false h1
      by_cases h7 : 7 < z
      · have hv0 : v = false := by rw [HG2.out, decide_eq_false (show ¬ (z ≤ 7) by omega), Bool.and_false]; rfl
        subst hv0
        have d7 : decide (7 < z) = true := decide_eq_true h7
        go_wp2_with fail
        go_quiet (fail)
        go_wp2_with fail
        go_ret
        exact ⟨rfl, q + nq, by simp⟩
      have d7 : decide (7 < z) = false := decide_eq_false h7
      cases k with
      | zero =>
        have hv1 : v = risingGo (prevZ zs 1) (zs.drop 1) := by
          rw [HG2.out, decide_eq_true (show 1 ≤ z by omega), decide_eq_true (show z ≤ 7 by omega)]
          simp [prevZ]
        have HV1 := Lib.hid hv1
        rw [Nat.add_zero] at hc
        clear hv1
        go_wp2_with fail
        go_quiet (fail)
        go_wp2_with fail
        go_roundw
        case rel => exact ⟨1, q + nq, by omega, by go_num, HV1.out, by simp⟩
        case measure => simp [intOf]; omega
      | succ m =>
        obtain ⟨b', off', y, he, hy, hcy⟩ := cellZ_at HR.out m (by omega)
        injection he with he
        injection he with h2 h3 _
        subst h2 h3
        have hp : prevZ zs (m + 1) = some y := prevZ_succ hy
        have hw2 : IntKind.i64.wrap (m : Int) = (m : Int) := by rw [IntKind.wrap_i64] <;> omega
        have hw3 : IntKind.i64.wrap (((m + 1 : Nat) : Int) - 1) = (m : Int) := by rw [IntKind.wrap_i64] <;> omega
        have hi2 : (m : Int) < (n : Int) := by omega
        have hm0 : (0 : Int) < (m : Int) + 1 := by omega
        have dm0 : decide ((0 : Int) < ((m + 1 : Nat) : Int)) = true := decide_eq_true (by omega)
        have dm1 : decide ((0 : Int) < (m : Int) + 1) = true := decide_eq_true (by omega)
        have hv1 : v = (decide (y < z) && risingGo (prevZ zs (m + 2)) (zs.drop (m + 2))) := by
          rw [HG2.out, decide_eq_true (show 1 ≤ z by omega), decide_eq_true (show z ≤ 7 by omega), hp]
          rfl
        have HV1 := Lib.hid hv1
        clear hv1 hy hp
        by_cases hyz : y < z
        · have hyz' : ¬ z ≤ y := by omega
          have dzy : decide (z ≤ y) = false := decide_eq_false hyz'
          have hv2 : v = risingGo (prevZ zs (m + 2)) (zs.drop (m + 2)) := by rw [HV1.out, decide_eq_true hyz]; rfl
          have HV2 := Lib.hid hv2
          clear hv2
          go_wp2_with fail
          go_quiet (fail)
          go_wp2_with fail
          go_roundw
          case rel => exact ⟨m + 2, q + nq, by omega, by go_num, HV2.out, by simp⟩
          case measure => simp [intOf]; omega
        · have hv0 : v = false := by rw [HV1.out, decide_eq_false hyz]; rfl
          subst hv0
          have hyz' : z ≤ y := by omega
          have dzy : decide (z ≤ y) = true := decide_eq_true hyz'
          go_wp2_with fail
          go_quiet (fail)
          go_wp2_with fail
          go_ret
          exact ⟨rfl, q + nq, by simp⟩
    · have hd : zs.drop k = [] := List.drop_of_length_le (by rw [HL.out]; omega)
      have hv1 : v = true := by rw [HG.out, hd]; cases prevZ zs k <;> rfl
      subst hv1
      go_wp2_with fail
      go_ret
      exact ⟨rfl, q, rfl⟩
def apartB (v l : List Int) : Bool := !(v.any fun z => decide (z ∈ l))
set_option maxRecDepth 100000 in
set_option maxHeartbeats 6400000 in
theorem rrightConf_any (c : Cf) (w : World) (hc : c.ok w) (hn : c.v.len ≤ 9223372036854775807 ∧ c.l.len ≤ 9223372036854775807) :
    Calls Try.prog 78 #[.agg #[.slice c.v.a c.v.len c.v.cap, .slice c.l.a c.l.len c.l.cap]] w (RetBox w (.bool (risingB c.v.zs && risingB c.l.zs && apartB c.v.zs c.l.zs))) := by
  obtain ⟨⟨va, vl, vc, vz⟩, ⟨la, ll, lc, lz⟩⟩ := c
  simp only at hn ⊢
  obtain ⟨X, hX⟩ : ∃ X, X = w.alloc (.cells #[.slice va vl vc, .slice la ll lc] 26) := ⟨_, rfl⟩
  have hXb : Below w.heap.size w X := hX ▸ below_alloc (Below.refl _ _) _
  have hA : X.heap[w.heap.size]? = some (.cells #[.slice va vl vc, .slice la ll lc] 26 (0, 0)) := hX ▸ heap_alloc_new w _
  obtain ⟨x0, x1, _, _⟩ := two_cells hA
  have hcX := hc.below hXb
  have hlv : vz.length = vl := by have h := hc.1.1.1; rw [cellsZ_len] at h; simpa using h
  have h1 := fun q => rrising_any va vl vc vz (X.drewN q) (hcX.1.1.drewN q) hn.1
  have h2 := fun q => rrising_any la ll lc lz (X.drewN q) (hcX.2.1.drewN q) hn.2
  have h3 := fun z q => rhasZ_any la ll lc lz z (X.drewN q) (hcX.2.1.drewN q) hn.2
  have H1 := Lib.hid h1
  have H2 := Lib.hid h2
  have H3 := Lib.hid h3
  have HXB := Lib.hid hXb
  have HLV := Lib.hid hlv
  have HRX := Lib.hid hcX.1.1
  have HXX := Lib.hid hX
  clear h1 h2 h3 hc hcX hA hXb hlv hX
  cases hv : risingB vz with
  | false =>
    rw [hv] at H1
    go_enter Try.func78, Try.ntmps78
    go_wp2_with fail
    rw [← HXX.out]
    refine (H1.out 0).mono ?_
    rintro e w2 ⟨rfl, q, rfl⟩
    go_wp2_with fail
    go_ret
    exact ⟨by simp, below_drewN HXB.out _⟩
  | true =>
    rw [hv] at H1
    cases hl : risingB lz with
    | false =>
      rw [hl] at H2
      go_enter Try.func78, Try.ntmps78
      go_wp2_with fail
      rw [← HXX.out]
      refine (H1.out 0).mono ?_
      rintro e w2 ⟨rfl, q, rfl⟩
      go_wp2_with fail
      refine (H2.out q).mono ?_
      rintro e w2 ⟨rfl, q2, rfl⟩
      go_wp2_with fail
      go_ret
      exact ⟨by simp, below_drewN HXB.out _⟩
    | true =>
      rw [hl] at H2
      rw [Bool.true_and, Bool.true_and]
      obtain ⟨b0, hb0⟩ : ∃ b, b = apartB vz lz := ⟨_, rfl⟩
      rw [← hb0]
      have HB0 := Lib.hid hb0
      clear hb0 hv hl
      go_enter Try.func78, Try.ntmps78
      go_wp2_with fail
      rw [← HXX.out]
      refine (H1.out 0).mono ?_
      rintro e w2 ⟨rfl, q, rfl⟩
      go_wp2_with fail
      refine (H2.out q).mono ?_
      rintro e w2 ⟨rfl, q2, rfl⟩
      go_wp2_with fail
      go_loopw [3] (fun i wr => ∃ (k r : Nat), k ≤ vl ∧ i = .int .i64 k ∧ Hid (b0 = apartB (vz.drop k) lz) ∧ wr = X.drewN r) (fun i _ => vl - (intOf i).toNat)
      case atStart => exact ⟨0, q + q2, by omega, rfl, HB0.out, by simp⟩
      case round =>
        obtain ⟨k, r, hk, rfl, HG, rfl⟩ := hrel
        by_cases hlt : k < vl
        · obtain ⟨b, off, z, rfl, hz, hcz⟩ := cellZ_at HRX.out k hlt
          have hkn : (k : Int) < (vl : Int) := by omega
          have hd := drop_z hz
          have hg : b0 = (!decide (z ∈ lz) && apartB (vz.drop (k + 1)) lz) := by
            rw [HG.out, hd]
            unfold apartB
            rw [List.any_cons, Bool.not_or]
          have HG2 := Lib.hid hg
          clear hd hz hg
          have h3 := H3.out z
          by_cases hm : z ∈ lz
          · rw [decide_eq_true hm] at h3
            have hb : b0 = false := by rw [HG2.out, decide_eq_true hm]; rfl
            subst hb
            have H3Z := Lib.hid h3
            clear h3 hm
            go_wp2_with fail
            go_quiet ((go_at_call 101; exact quiet_at (H3Z.out _)))
            go_wp2_with fail
            go_ret
            exact ⟨rfl, below_drewN (below_drewN HXB.out _) _⟩
          · rw [decide_eq_false hm] at h3
            have hb : b0 = apartB (vz.drop (k + 1)) lz := by rw [HG2.out, decide_eq_false hm]; rfl
            have HB := Lib.hid hb
            have H3Z := Lib.hid h3
            clear h3 hm hb
            go_wp2_with fail
            go_quiet ((go_at_call 101; exact quiet_at (H3Z.out _)))
            go_wp2_with fail
            go_roundw
            case rel => exact ⟨k + 1, r + nq, by omega, by go_num, HB.out, by simp⟩
            case measure => simp [intOf]; omega
        · have hd : vz.drop k = [] := List.drop_of_length_le (by rw [HLV.out]; omega)
          have hb : b0 = true := by rw [HG.out, hd]; rfl
          subst hb
          go_wp2_with fail
          go_ret
          exact ⟨rfl, below_drewN HXB.out _⟩
set_option maxRecDepth 100000 in
set_option maxHeartbeats 3200000 in
theorem rright15_any (c : Cf) (w : World) (hc : c.ok w) (hn : c.v.len ≤ 9223372036854775807 ∧ c.l.len ≤ 9223372036854775807) :
    Calls Try.prog 41 #[.agg #[.slice c.v.a c.v.len c.v.cap, .slice c.l.a c.l.len c.l.cap]] w (RetBox w (.bool (confRight c.v.zs c.l.zs))) := by
  have hX := below_alloc (Below.refl w.heap.size w) (.cells #[.slice c.v.a c.v.len c.v.cap, .slice c.l.a c.l.len c.l.cap] 26)
  have h1 := rrightConf_any c _ (hc.below hX) hn
  have hlv : c.v.zs.length = c.v.len := by have h := hc.1.1.1; rw [cellsZ_len] at h; simpa using h
  have e0 : confRight c.v.zs c.l.zs = (decide (0 < c.v.len) && (risingB c.v.zs && risingB c.l.zs && apartB c.v.zs c.l.zs)) := by
    unfold confRight apartB
    rw [hlv]
    cases risingB c.v.zs <;> cases risingB c.l.zs <;> cases decide (0 < c.v.len) <;> simp
  rw [e0]
  obtain ⟨b, hb⟩ : ∃ b, b = (risingB c.v.zs && risingB c.l.zs && apartB c.v.zs c.l.zs) := ⟨_, rfl⟩
  rw [← hb] at h1 ⊢
  have H1 := Lib.hid h1
  have HX := Lib.hid hX
  clear h1 hX hc hlv e0 hb
  by_cases h0 : 0 < c.v.len
  · have h0' : (0 : Int) < (c.v.len : Int) := by omega
    rw [decide_eq_true h0, Bool.true_and]
    go_enter Try.func41, Try.ntmps41
    go_wp2_with fail
    refine H1.out.mono ?_
    rintro e w2 ⟨rfl, hb2⟩
    go_wp2_with fail
    go_ret
    exact ⟨by simp, below_then HX.out hb2⟩
  · have h0' : ¬ (0 : Int) < (c.v.len : Int) := by omega
    rw [decide_eq_false h0, Bool.false_and]
    go_enter Try.func41, Try.ntmps41
    go_wp2_with fail
    go_ret
    exact ⟨by simp, HX.out⟩
def r06 (ix tm kd : Int) (len : Nat) : Bool := decide (1 ≤ ix) && (decide (ix ≤ 1099511627776) && (decide (0 ≤ tm) && (decide (tm ≤ 1099511627776) && (decide (0 ≤ kd) && (decide (kd ≤ 2) && decide ((len : Int) ≤ 2048))))))
set_option maxRecDepth 100000 in
set_option maxHeartbeats 6400000 in
theorem r06_any (ix tm kd : Int) (s : Sl) (w : World) :
    Calls Try.prog 42 #[.agg #[.int .i64 ix, .int .i64 tm, .int .i64 kd, .slice s.a s.len s.cap]] w (RetBox w (.bool (r06 ix tm kd s.len))) := by
  obtain ⟨v, hv⟩ : ∃ v, v = r06 ix tm kd s.len := ⟨_, rfl⟩
  rw [← hv]
  rw [r06] at hv
  have HV := Lib.hid hv
  clear hv
  by_cases h0 : 1 ≤ ix
  case neg =>
    have hv0 : v = false := by rw [HV.out]; simp only [decide_eq_false h0, Bool.false_and]
    subst hv0
    go_enter Try.func42, Try.ntmps42
    go_wp2_with fail
    go_ret
    exact ⟨by first | rfl | simp [h0] | (simp; omega), below_alloc (Below.refl _ _) _⟩
  by_cases h1 : ix ≤ 1099511627776
  case neg =>
    have hv0 : v = false := by rw [HV.out]; simp only [decide_eq_false h1, Bool.and_false, Bool.false_and]
    subst hv0
    go_enter Try.func42, Try.ntmps42
    go_wp2_with fail
    go_ret
    exact ⟨by first | rfl | simp [h1] | (simp; omega), below_alloc (Below.refl _ _) _⟩
  by_cases h2 : 0 ≤ tm
  case neg =>
    have hv0 : v = false := by rw [HV.out]; simp only [decide_eq_false h2, Bool.and_false, Bool.false_and]
    subst hv0
    go_enter Try.func42, Try.ntmps42
    go_wp2_with fail
    go_ret
    exact ⟨by first | rfl | simp [h2] | (simp; omega), below_alloc (Below.refl _ _) _⟩
  by_cases h3 : tm ≤ 1099511627776
  case neg =>
    have hv0 : v = false := by rw [HV.out]; simp only [decide_eq_false h3, Bool.and_false, Bool.false_and]
    subst hv0
    go_enter Try.func42, Try.ntmps42
    go_wp2_with fail
    go_ret
    exact ⟨by first | rfl | simp [h3] | (simp; omega), below_alloc (Below.refl _ _) _⟩
  by_cases h4 : 0 ≤ kd
  case neg =>
    have hv0 : v = false := by rw [HV.out]; simp only [decide_eq_false h4, Bool.and_false, Bool.false_and]
    subst hv0
    go_enter Try.func42, Try.ntmps42
    go_wp2_with fail
    go_ret
    exact ⟨by first | rfl | simp [h4] | (simp; omega), below_alloc (Below.refl _ _) _⟩
  by_cases h5 : kd ≤ 2
  case neg =>
    have hv0 : v = false := by rw [HV.out]; simp only [decide_eq_false h5, Bool.and_false, Bool.false_and]
    subst hv0
    go_enter Try.func42, Try.ntmps42
    go_wp2_with fail
    go_ret
    exact ⟨by first | rfl | simp [h5] | (simp; omega), below_alloc (Below.refl _ _) _⟩
  by_cases h6 : (s.len : Int) ≤ 2048
  case neg =>
    have hv0 : v = false := by rw [HV.out]; simp only [decide_eq_false h6, Bool.and_false]
    subst hv0
    go_enter Try.func42, Try.ntmps42
    go_wp2_with fail
    go_ret
    exact ⟨by first | rfl | simp [h6] | (simp; omega), below_alloc (Below.refl _ _) _⟩
  have hv0 : v = true := by rw [HV.out]; simp only [decide_eq_true h0, decide_eq_true h1, decide_eq_true h2, decide_eq_true h3, decide_eq_true h4, decide_eq_true h5, decide_eq_true h6, Bool.and_true]
  subst hv0
  go_enter Try.func42, Try.ntmps42
  go_wp2_with fail
  go_ret
  exact ⟨by first | rfl | simp [h6] | (simp; omega), below_alloc (Below.refl _ _) _⟩
end Go.Proofs.Ytcejamblndilbaa
