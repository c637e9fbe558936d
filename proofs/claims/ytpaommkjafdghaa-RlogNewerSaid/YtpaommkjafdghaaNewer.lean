/- RlogNewer: the walk. -/
import Derived.Test.YtpaommkjafdghaaMade
namespace Go.Proofs.Ytpaommkjafdghaa
open Go.RowKit

/-- Of two ends one is at least as new as the other; both are just if they are the same. -/
theorem newer_two (p q : Int × Int) : ((newerOf p q.1 q.2 = false → newerOf q p.1 p.2 = true) ∧ ((newerOf p q.1 q.2 && newerOf q p.1 p.2) = (decide (p.1 = q.1) && decide (p.2 = q.2)))) := by
  obtain ⟨i, t⟩ := p
  obtain ⟨j, u⟩ := q
  simp only [newerOf]
  refine ⟨fun h => ?_, ?_⟩
  · simp only [Bool.or_eq_false_iff, Bool.and_eq_false_iff, decide_eq_false_iff_not] at h
    simp only [Bool.or_eq_true, Bool.and_eq_true, decide_eq_true_iff]
    omega
  · rw [Bool.eq_iff_iff]
    simp only [Bool.or_eq_true, Bool.and_eq_true, decide_eq_true_iff]
    omega
theorem newer_on (p q r : Int × Int) (h1 : newerOf p q.1 q.2 = true) (h2 : newerOf q r.1 r.2 = true) : newerOf p r.1 r.2 = true := by
  obtain ⟨i, t⟩ := p
  obtain ⟨j, u⟩ := q
  obtain ⟨k, v⟩ := r
  simp only [newerOf, Bool.or_eq_true, Bool.and_eq_true, decide_eq_true_iff] at *
  omega

set_option maxRecDepth 100000 in
set_option maxHeartbeats 6400000 in
theorem rlogNewer_walk (a0 : Option Addr) (len0 cap0 : Nat) (zs0 : List Int) (a1 : Option Addr) (len1 cap1 : Nat) (zs1 : List Int) (a2 : Option Addr) (len2 cap2 : Nat) (zs2 : List Int) (w : World)
    (hr0 : RowN w a0 1 len0 (cellsZ zs0)) (hl0 : len0 ≤ cap0) (hm0 : cap0 ≤ maxLen) (_hn0 : a0 = none → cap0 = 0) (hr1 : RowN w a1 1 len1 (cellsZ zs1)) (hl1 : len1 ≤ cap1) (hm1 : cap1 ≤ maxLen) (_hn1 : a1 = none → cap1 = 0)
    (hr2 : RowN w a2 1 len2 (cellsZ zs2)) (hl2 : len2 ≤ cap2) (hm2 : cap2 ≤ maxLen) (_hn2 : a2 = none → cap2 = 0) :
    Calls Try.prog 4 #[.slice a0 len0 cap0, .slice a1 len1 cap1, .slice a2 len2 cap2] w fun e w' => e = .returned (.bool true) ∧ Below w.heap.size w w' := by
  have HR0 := Lib.hid hr0
  have HR1 := Lib.hid hr1
  have HR2 := Lib.hid hr2
  clear hr0 hr1 hr2
  go_enter Try.func4, Try.ntmps4
  go_wp2_with fail
  refine (alive_any _).mono ?_
  rintro e w1 ⟨rfl, hb1⟩
  have HB1 := Lib.hid hb1
  clear hb1
  go_wp2_with fail
  refine (made_any a0 len0 cap0 zs0 _ (HR0.out.below HB1.out) hl0 hm0).mono ?_
  rintro e w2 ⟨B0, N0, c0, es0, ae0, n0, cp0, rfl, hL0, hS0, hN0, hb2⟩
  have HB2 := Lib.hid (below_then HB1.out hb2)
  clear hb2 hS0
  have HL0 := Lib.hid hL0
  clear hL0
  go_wp2_with fail
  refine (made_any a1 len1 cap1 zs1 _ (HR1.out.below HB2.out) hl1 hm1).mono ?_
  rintro e w3 ⟨B1, N1, c1, es1, ae1, n1, cp1, rfl, hL1, hS1, hN1, hb3⟩
  have HB3 := Lib.hid (below_then HB2.out hb3)
  have HL03 := Lib.hid (HL0.out.below hb3)
  clear hb3 hS1 HL0
  have HL1 := Lib.hid hL1
  clear hL1
  go_wp2_with fail
  refine (made_any a2 len2 cap2 zs2 _ (HR2.out.below HB3.out) hl2 hm2).mono ?_
  rintro e w4 ⟨B2, N2, c2, es2, ae2, n2, cp2, rfl, hL2, hS2, hN2, hb4⟩
  have HB4 := Lib.hid (below_then HB3.out hb4)
  have la0 := fun Z (hZ : Below w4.heap.size w4 Z) => last_any B0 N0 0 0 c0 es0 ae0 n0 cp0 Z ((HL03.out.below hb4).below hZ) (by omega)
  have la1 := fun Z (hZ : Below w4.heap.size w4 Z) => last_any B1 N1 0 0 c1 es1 ae1 n1 cp1 Z ((HL1.out.below hb4).below hZ) (by omega)
  have la2 := fun Z (hZ : Below w4.heap.size w4 Z) => last_any B2 N2 0 0 c2 es2 ae2 n2 cp2 Z (hL2.below hZ) (by omega)
  have nw0 := fun i t Z (hZ : Below w4.heap.size w4 Z) => newer_any B0 N0 0 0 c0 es0 ae0 n0 cp0 i t Z ((HL03.out.below hb4).below hZ) (by omega)
  have nw1 := fun i t Z (hZ : Below w4.heap.size w4 Z) => newer_any B1 N1 0 0 c1 es1 ae1 n1 cp1 i t Z ((HL1.out.below hb4).below hZ) (by omega)
  have h2 := newer_two (lastOf 0 0 es0) (lastOf 0 0 es1)
  have h3 := newer_on (lastOf 0 0 es0) (lastOf 0 0 es1) (lastOf 0 0 es2)
  obtain ⟨p, hp⟩ : ∃ p, p = lastOf 0 0 es0 := ⟨_, rfl⟩
  obtain ⟨q, hq⟩ : ∃ q, q = lastOf 0 0 es1 := ⟨_, rfl⟩
  obtain ⟨r, hr⟩ : ∃ r, r = lastOf 0 0 es2 := ⟨_, rfl⟩
  rw [← hp] at la0 nw0 h2 h3
  rw [← hq] at la1 nw1 h2 h3
  rw [← hr] at la2 h3
  obtain ⟨i, t⟩ := p
  obtain ⟨j, u⟩ := q
  obtain ⟨k, v⟩ := r
  simp only at la0 la1 la2 h2 h3
  have n01 := nw0 j u
  have n02 := nw0 k v
  have n10 := nw1 i t
  have n12 := nw1 k v
  obtain ⟨b01, hb01⟩ : ∃ b, b = newerOf (i, t) j u := ⟨_, rfl⟩
  obtain ⟨b10, hb10⟩ : ∃ b, b = newerOf (j, u) i t := ⟨_, rfl⟩
  obtain ⟨b12, hb12⟩ : ∃ b, b = newerOf (j, u) k v := ⟨_, rfl⟩
  obtain ⟨b02, hb02⟩ : ∃ b, b = newerOf (i, t) k v := ⟨_, rfl⟩
  rw [← hb01, ← hb10] at h2
  rw [← hb01, ← hb12, ← hb02] at h3
  rw [← hb01] at n01
  rw [← hb10] at n10
  rw [← hb12] at n12
  rw [← hb02] at n02
  have LA0 := Lib.hid la0
  have LA1 := Lib.hid la1
  have LA2 := Lib.hid la2
  have N01 := Lib.hid n01
  have N10 := Lib.hid n10
  have N12 := Lib.hid n12
  have N02 := Lib.hid n02
  clear nw0 nw1 n01 n02 n10 n12 la0 la1 la2 hb4 hL2 hS2 HL03 HL1 hp hq hr hb01 hb10 hb12 hb02 HR0 HR1 HR2
  obtain ⟨h2a, h2b⟩ := h2
  have h2c := Lib.hid h2b
  clear h2b
  go_wp2_with fail
  refine (LA0.out _ (Below.refl _ _)).mono ?_
  rintro e w5 ⟨rfl, hb5⟩
  have HB5 := Lib.hid hb5
  clear hb5
  go_wp2_with fail
  refine (LA1.out _ HB5.out).mono ?_
  rintro e w6 ⟨rfl, hb6⟩
  have HB6 := Lib.hid (below_then HB5.out hb6)
  clear hb6
  go_wp2_with fail
  refine (LA2.out _ HB6.out).mono ?_
  rintro e w7 ⟨rfl, hb7⟩
  have HB7 := Lib.hid (below_then HB6.out hb7)
  clear hb7
  have hd : (i = j ∧ t = u) ∨ (i = j ∧ (t == u) = false) ∨ ((i == j) = false) := by
    by_cases hi : i = j
    · by_cases ht : t = u
      · exact .inl ⟨hi, ht⟩
      · exact .inr (.inl ⟨hi, by simpa using ht⟩)
    · exact .inr (.inr (by simpa using hi))
  have htt : ¬ (i = j ∧ t = u) → (b01 && b10) = false := fun h => by
    rw [h2c.out]
    by_cases hi : i = j
    · by_cases ht : t = u
      · exact absurd ⟨hi, ht⟩ h
      · simp [ht]
    · simp [hi]
  have hte : (i = j ∧ t = u) → (b01 && b10) = true := fun h => by rw [h2c.out, h.1, h.2]; simp
  have HTT := Lib.hid htt
  have HTE := Lib.hid hte
  clear htt hte h2c
  go_wp2_with fail
  rcases b01 with _ | _ <;> rcases b10 with _ | _
  · exact absurd (h2a rfl) (by simp)
  · have hne : ¬ (i = j ∧ t = u) := fun h => by have := HTE.out h; simp at this
    clear h2a h3
    rcases hd with hd | ⟨rfl, hd⟩ | hd
    · exact absurd hd hne
    all_goals
      clear hne
      refine (N01.out _ HB7.out).mono ?_
      rintro e w8 ⟨rfl, hb8⟩
      have HB8 := Lib.hid (below_then HB7.out hb8)
      clear hb8
      go_wp2_with fail
      refine (N10.out _ HB8.out).mono ?_
      rintro e w9 ⟨rfl, hb9⟩
      have HB9 := Lib.hid (below_then HB8.out hb9)
      clear hb9
      go_wp2_with fail
      refine (N01.out _ HB9.out).mono ?_
      rintro e w10 ⟨rfl, hb10⟩
      have HB10 := Lib.hid (below_then HB9.out hb10)
      clear hb10
      go_wp2_with fail
      refine (N01.out _ HB10.out).mono ?_
      rintro e w11 ⟨rfl, hb11⟩
      have HB11 := Lib.hid (below_then HB10.out hb11)
      clear hb11
      go_wp2_with fail
      go_ret
      exact ⟨rfl, below_then HB4.out HB11.out⟩
  · have hne : ¬ (i = j ∧ t = u) := fun h => by have := HTE.out h; simp at this
    clear h2a
    have h3' := h3 rfl
    clear h3
    rcases hd with hd | ⟨rfl, hd⟩ | hd
    · exact absurd hd hne
    all_goals
      clear hne
      cases b12 with
      | false =>
        clear h3'
        refine (N01.out _ HB7.out).mono ?_
        rintro e w8 ⟨rfl, hb8⟩
        have HB8 := Lib.hid (below_then HB7.out hb8)
        clear hb8
        go_wp2_with fail
        refine (N01.out _ HB8.out).mono ?_
        rintro e w9 ⟨rfl, hb9⟩
        have HB9 := Lib.hid (below_then HB8.out hb9)
        clear hb9
        go_wp2_with fail
        refine (N10.out _ HB9.out).mono ?_
        rintro e w10 ⟨rfl, hb10⟩
        have HB10 := Lib.hid (below_then HB9.out hb10)
        clear hb10
        go_wp2_with fail
        refine (N01.out _ HB10.out).mono ?_
        rintro e w11 ⟨rfl, hb11⟩
        have HB11 := Lib.hid (below_then HB10.out hb11)
        clear hb11
        go_wp2_with fail
        refine (N12.out _ HB11.out).mono ?_
        rintro e w12 ⟨rfl, hb12⟩
        have HB12 := Lib.hid (below_then HB11.out hb12)
        clear hb12
        go_wp2_with fail
        go_ret
        exact ⟨rfl, below_then HB4.out HB12.out⟩
      | true =>
        obtain rfl := h3' rfl
        clear h3'
        refine (N01.out _ HB7.out).mono ?_
        rintro e w8 ⟨rfl, hb8⟩
        have HB8 := Lib.hid (below_then HB7.out hb8)
        clear hb8
        go_wp2_with fail
        refine (N01.out _ HB8.out).mono ?_
        rintro e w9 ⟨rfl, hb9⟩
        have HB9 := Lib.hid (below_then HB8.out hb9)
        clear hb9
        go_wp2_with fail
        refine (N10.out _ HB9.out).mono ?_
        rintro e w10 ⟨rfl, hb10⟩
        have HB10 := Lib.hid (below_then HB9.out hb10)
        clear hb10
        go_wp2_with fail
        refine (N01.out _ HB10.out).mono ?_
        rintro e w11 ⟨rfl, hb11⟩
        have HB11 := Lib.hid (below_then HB10.out hb11)
        clear hb11
        go_wp2_with fail
        refine (N12.out _ HB11.out).mono ?_
        rintro e w12 ⟨rfl, hb12⟩
        have HB12 := Lib.hid (below_then HB11.out hb12)
        clear hb12
        go_wp2_with fail
        refine (N02.out _ HB12.out).mono ?_
        rintro e w13 ⟨rfl, hb13⟩
        have HB13 := Lib.hid (below_then HB12.out hb13)
        clear hb13
        go_wp2_with fail
        go_ret
        exact ⟨rfl, below_then HB4.out HB13.out⟩
  · have hy : i = j ∧ t = u := by
      by_cases hc : i = j ∧ t = u
      · exact hc
      · have := HTT.out hc
        simp at this
    obtain ⟨rfl, rfl⟩ := hy
    have h3' := h3 rfl
    clear h3 h2a hd
    cases b12 with
    | false =>
      clear h3'
      refine (N01.out _ HB7.out).mono ?_
      rintro e w8 ⟨rfl, hb8⟩
      have HB8 := Lib.hid (below_then HB7.out hb8)
      clear hb8
      go_wp2_with fail
      refine (N01.out _ HB8.out).mono ?_
      rintro e w9 ⟨rfl, hb9⟩
      have HB9 := Lib.hid (below_then HB8.out hb9)
      clear hb9
      go_wp2_with fail
      refine (N10.out _ HB9.out).mono ?_
      rintro e w10 ⟨rfl, hb10⟩
      have HB10 := Lib.hid (below_then HB9.out hb10)
      clear hb10
      go_wp2_with fail
      refine (N01.out _ HB10.out).mono ?_
      rintro e w11 ⟨rfl, hb11⟩
      have HB11 := Lib.hid (below_then HB10.out hb11)
      clear hb11
      go_wp2_with fail
      refine (N12.out _ HB11.out).mono ?_
      rintro e w12 ⟨rfl, hb12⟩
      have HB12 := Lib.hid (below_then HB11.out hb12)
      clear hb12
      go_wp2_with fail
      go_ret
      exact ⟨rfl, below_then HB4.out HB12.out⟩
    | true =>
      obtain rfl := h3' rfl
      clear h3'
      refine (N01.out _ HB7.out).mono ?_
      rintro e w8 ⟨rfl, hb8⟩
      have HB8 := Lib.hid (below_then HB7.out hb8)
      clear hb8
      go_wp2_with fail
      refine (N01.out _ HB8.out).mono ?_
      rintro e w9 ⟨rfl, hb9⟩
      have HB9 := Lib.hid (below_then HB8.out hb9)
      clear hb9
      go_wp2_with fail
      refine (N10.out _ HB9.out).mono ?_
      rintro e w10 ⟨rfl, hb10⟩
      have HB10 := Lib.hid (below_then HB9.out hb10)
      clear hb10
      go_wp2_with fail
      refine (N01.out _ HB10.out).mono ?_
      rintro e w11 ⟨rfl, hb11⟩
      have HB11 := Lib.hid (below_then HB10.out hb11)
      clear hb11
      go_wp2_with fail
      refine (N12.out _ HB11.out).mono ?_
      rintro e w12 ⟨rfl, hb12⟩
      have HB12 := Lib.hid (below_then HB11.out hb12)
      clear hb12
      go_wp2_with fail
      refine (N02.out _ HB12.out).mono ?_
      rintro e w13 ⟨rfl, hb13⟩
      have HB13 := Lib.hid (below_then HB12.out hb13)
      clear hb13
      go_wp2_with fail
      go_ret
      exact ⟨rfl, below_then HB4.out HB13.out⟩
end Go.Proofs.Ytpaommkjafdghaa
