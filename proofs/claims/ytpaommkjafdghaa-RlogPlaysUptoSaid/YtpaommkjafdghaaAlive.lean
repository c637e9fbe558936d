/- The law's alive. -/
import Derived.Test.YtpaommkjafdghaaEnts
namespace Go.Proofs.Ytpaommkjafdghaa
open Go.RowKit

theorem two_says {vs : List En} {a b : Int × Int × Int × List UInt8} (h : vs.map En.says = [a, b]) : ∃ s1 s2 : Sl, vs = [⟨a.1, a.2.1, a.2.2.1, s1⟩, ⟨b.1, b.2.1, b.2.2.1, s2⟩] ∧ s1.bs = a.2.2.2 ∧ s2.bs = b.2.2.2 := by
  match vs, h with
  | [⟨i1, t1, k1, s1⟩, ⟨i2, t2, k2, s2⟩], h =>
    simp only [List.map_cons, List.map_nil, En.says, List.cons.injEq, and_true] at h
    obtain ⟨rfl, rfl⟩ := h
    exact ⟨s1, s2, rfl, rfl, rfl⟩

def aliveUs : List En := [⟨1, 1, 0, ⟨none, 0, 0, []⟩⟩, ⟨2, 3, 0, ⟨none, 0, 0, []⟩⟩]
theorem alive_code : appendOf 0 0 aliveUs = 0 := by simp [appendOf, aliveUs, rightE]

set_option maxRecDepth 100000 in
set_option maxHeartbeats 6400000 in
theorem alive_any (w : World) : Calls Try.prog 9 #[] w (RetBox w (.bool true)) := by
  go_enter Try.func9, Try.ntmps9
  go_wp2_with fail
  refine (first_any _).mono ?_
  rintro e w1 ⟨c0, rfl, hs0, hv0, hl0, hb1⟩
  have hln : c0.v.len = 2 ∧ c0.l.len = 0 := by
    have h1 := hv0.len
    have h2 := hl0.len
    simp only [Cf.says, Prod.mk.injEq] at hs0
    rw [hs0.1] at h1
    rw [hs0.2] at h2
    exact ⟨h1.symm, h2.symm⟩
  have hnew := rnew_any 0 0 c0 w1 (Cf.ok_of_own hv0 hl0) (by omega)
  have HNEW := Lib.hid hnew
  have HB1 := Lib.hid hb1
  have HS0 := Lib.hid hs0
  clear hnew hb1 hs0 hv0 hl0 hln
  go_wp2_with fail
  refine HNEW.out.mono ?_
  rintro e w2 ⟨N, c1, rfl, hL2, hs1, hb2⟩
  rw [show clampN 0 = 0 from by decide] at hL2
  have hbw2 := below_then HB1.out hb2
  obtain ⟨X, hX⟩ : ∃ X, X = w2.alloc (.cells #[.int .i64 1, .int .i64 1, .int .i64 0, .slice none 0 0, .int .i64 2, .int .i64 3, .int .i64 0, .slice none 0 0] 32) := ⟨_, rfl⟩
  have hbX : Below w2.heap.size w2 X := hX ▸ below_alloc (Below.refl _ _) _
  have hXB : X.heap[w2.heap.size]? = some (.cells #[.int .i64 1, .int .i64 1, .int .i64 0, .slice none 0 0, .int .i64 2, .int .i64 3, .int .i64 0, .slice none 0 0] 32 (0, 0)) := hX ▸ heap_alloc_new w2 _
  have hLX := hL2.below hbX
  have hNl := lt_of_block hL2.cell
  have hz12 := hb2.size
  have hz2X := hbX.size
  have hus : EnAt X (Off N none) aliveUs (some ⟨w2.heap.size, 0, none⟩) 2 := ⟨rfl, RowN.of_block hXB rfl rfl, fun u hu => by
    have hu' : u.s = ⟨none, 0, 0, []⟩ := by
      simp only [aliveUs, List.mem_cons, List.not_mem_nil, or_false] at hu
      rcases hu with rfl | rfl <;> rfl
    rw [hu']
    exact ⟨⟨Row8.nil _ _, Nat.le_refl _, Nat.zero_le _, fun _ => rfl⟩, fun _ _ e => by cases e⟩, fun b off e _ => by
    injection e with e
    injection e with e1 _ _
    subst e1
    exact ⟨by omega, fun e => by cases e⟩⟩
  have hap := append_any w1.heap.size N 0 0 c1 [] none 0 0 (some ⟨w2.heap.size, 0, none⟩) 2 2 aliveUs X hLX ⟨by omega, by omega, fun k e he => by cases he⟩ (by omega) hus
  rw [show lastOf 0 0 [] = (0, 0) from rfl] at hap
  simp only at hap
  rw [alive_code] at hap
  have HAP := Lib.hid hap
  have HBW2 := Lib.hid hbw2
  have HBX := Lib.hid hbX
  have HS1 := Lib.hid (hs1.trans HS0.out)
  clear hap hbw2 hbX hus hLX hXB hL2 hs1 hb2 hNl
  go_wp2_with fail
  rw [← hX]
  clear hX
  refine HAP.out.mono ?_
  rintro e w3 ⟨rfl, -, h0⟩
  obtain ⟨vs, ae, cap, hsay, hL3, hst3, -⟩ := h0 rfl
  rw [show (0 : Nat) + aliveUs.length = 2 from rfl, List.nil_append] at hL3
  obtain ⟨s1, s2, rfl, hb1, hb2⟩ := two_says (a := (1, 1, 0, [])) (b := (2, 3, 0, [])) hsay
  simp only at hL3 hb1 hb2
  have hbX3 : Below w.heap.size w w3 := by
    have h1 := below_then HBW2.out HBX.out
    have h2 : Below w1.heap.size X w3 := ⟨hst3.os, hst3.tape, hst3.output, hst3.size, fun k hk => by
      have hz1 := HB1.out.size
      have hlo := hL3.lo
      exact hst3.block k (by omega) (by omega) (fun e => by cases e)⟩
    exact h1.trans (h2.mono (by exact HB1.out.size))
  have hS3 : Sound 0 0 [⟨1, 1, 0, s1⟩, ⟨2, 3, 0, s2⟩] := ⟨by omega, by omega, fun k e he => by
    match k, he with
    | 0, he => simp at he; rw [← he]; rfl
    | 1, he => simp at he; rw [← he]; rfl
    | k + 2, he => simp at he⟩
  have hz3 := hst3.size
  have hae : ∀ g, Value.ownBlock (.slice ae 0 0) = some g → w1.heap.size ≤ g := fun g hg => (hL3.row.lt g ((own_addr ae 2 cap 0 0).trans hg)).1
  have hz01 := HB1.out.size
  have hc1 : c1.v.len ≤ 1000000000000 ∧ c1.l.len ≤ 1000000000000 := by
    have h1 := hL3.vo.len
    have h2 := hL3.le.len
    have h3 := HS1.out
    simp only [Cf.says, Prod.mk.injEq] at h3
    rw [h3.1] at h1
    rw [h3.2] at h2
    simp at h1 h2
    omega
  have hlast := fun Z (hZ : Below w3.heap.size w3 Z) => last_any w1.heap.size N 0 0 c1 _ ae 2 cap Z (hL3.below hZ) (by omega)
  have hnw := fun i t Z (hZ : Below w3.heap.size w3 Z) => newer_any w1.heap.size N 0 0 c1 _ ae 2 cap i t Z (hL3.below hZ) (by omega)
  have hdr := fun Z (hZ : Below w3.heap.size w3 Z) => dropTo_any w1.heap.size N 0 0 c1 _ ae 2 cap 1 Z (hL3.below hZ) hS3 (by omega) hc1 rfl
  have HLAST := Lib.hid hlast
  have HNW := Lib.hid hnw
  have HDR := Lib.hid hdr
  have HBX3 := Lib.hid hbX3
  clear hlast hnw hdr hbX3 hL3 hst3 hS3 hsay h0 hc1
  go_wp2_with fail
  refine (HLAST.out w3 (Below.refl _ _)).mono ?_
  rintro e w4 ⟨rfl, hb4⟩
  rw [show lastOf 0 0 [⟨1, 1, 0, s1⟩, ⟨2, 3, 0, s2⟩] = (2, 3) from rfl]
  go_wp2_with fail
  refine (HNW.out 1 4 w4 hb4).mono ?_
  rintro e w5 ⟨rfl, hb5⟩
  rw [show newerOf (lastOf 0 0 [⟨1, 1, 0, s1⟩, ⟨2, 3, 0, s2⟩]) 1 4 = true from rfl]
  have hb35 := below_then hb4 hb5
  go_wp2_with fail
  refine (HNW.out 1 3 w5 hb35).mono ?_
  rintro e w6 ⟨rfl, hb6⟩
  rw [show newerOf (lastOf 0 0 [⟨1, 1, 0, s1⟩, ⟨2, 3, 0, s2⟩]) 1 3 = false from rfl]
  have hb36 := below_then hb35 hb6
  go_wp2_with fail
  refine (HDR.out w6 hb36).mono ?_
  rintro e w7 ⟨rfl, c2, a7, cap7, hs7, hL7, hst7⟩
  rw [show (termOf 0 0 [⟨1, 1, 0, s1⟩, ⟨2, 3, 0, s2⟩] 1).1 = 1 from rfl] at hL7
  rw [show ((1 : Int) - 0).toNat = 1 from rfl, show List.drop 1 [(⟨1, 1, 0, s1⟩ : En), ⟨2, 3, 0, s2⟩] = [⟨2, 3, 0, s2⟩] from rfl, show 2 - 1 = 1 from rfl] at hL7
  have hs7' : c2.says = ([1, 2], []) := hs7.trans HS1.out
  have hS7 : Sound 1 1 [⟨2, 3, 0, s2⟩] := ⟨by omega, by omega, fun k e he => by
    match k, he with
    | 0, he => simp at he; rw [← he]; rfl
    | k + 1, he => simp at he⟩
  have hbW6 := below_then HBX3.out hb36
  have hz16 : w1.heap.size ≤ w6.heap.size := by have := hb36.size; omega
  have hlo7 := hL7.lo
  have hbW7 : Below w.heap.size w w7 := hbW6.trans ⟨hst7.os, hst7.tape, hst7.output, hst7.size, fun k hk => hst7.block k (by omega) (by omega) (fun e => by have := hae k e; omega)⟩
  have hbs := fun Z (hZ : Below w7.heap.size w7 Z) => base_any w1.heap.size N 1 1 c2 _ a7 1 cap7 Z (hL7.below hZ)
  have htm := fun Z (hZ : Below w7.heap.size w7 Z) => term_any w1.heap.size N 1 1 c2 _ a7 1 cap7 2 Z (hL7.below hZ) hS7 (by omega)
  have hc2 : c2.v.len ≤ 1000000000000 ∧ c2.l.len ≤ 1000000000000 := by
    have h1 := hL7.vo.len
    have h2 := hL7.le.len
    have h3 := hs7'
    simp only [Cf.says, Prod.mk.injEq] at h3
    rw [h3.1] at h1
    rw [h3.2] at h2
    simp at h1 h2
    omega
  have hcf := fun Z (hZ : Below w7.heap.size w7 Z) => Conf_any w1.heap.size N 1 1 c2 _ a7 1 cap7 Z (hL7.below hZ) (by omega) hc2
  have hhs := fun Z (hZ : Below w7.heap.size w7 Z) => has_any w1.heap.size N 1 1 c2 _ a7 1 cap7 2 3 Z (hL7.below hZ) hS7 (by omega)
  have hsl : s2.len ≤ 140737488355328 := by
    have h1 := (hL7.own ⟨2, 3, 0, s2⟩ (by simp)).length
    simp only at h1
    rw [hb2] at h1
    simp at h1
    omega
  have hen := fun Z (hZ : Below w7.heap.size w7 Z) => entries_any w1.heap.size N 1 1 c2 _ a7 1 cap7 0 9 Z (hL7.below hZ) hS7 (by omega) (fun e he => by rw [List.mem_singleton] at he; subst he; exact hsl)
  have HBS := Lib.hid hbs
  have HTM := Lib.hid htm
  have HCF := Lib.hid hcf
  have HHS := Lib.hid hhs
  have HEN := Lib.hid hen
  have HS7 := Lib.hid hs7'
  have HBW7 := Lib.hid hbW7
  clear hbs htm hcf hhs hen hs7' hs7 hbW7 hL7 hst7 hS7 hc2 hb36 hb35 hb4 hb5 hb6 hbW6 hae hsl hb1 hb2
  go_wp2_with fail
  refine (HBS.out w7 (Below.refl _ _)).mono ?_
  rintro e w8 ⟨rfl, hb8⟩
  go_wp2_with fail
  refine (HTM.out w8 hb8).mono ?_
  rintro e w9 ⟨rfl, hb9⟩
  rw [show termOf 1 1 [(⟨2, 3, 0, s2⟩ : En)] 2 = (3, true) from rfl]
  have hb79 := below_then hb8 hb9
  go_wp2_with fail
  refine (HCF.out w9 hb79).mono ?_
  rintro e wc ⟨v, rfl, hcc⟩
  rw [show confAtOf 1 c2.says [(⟨2, 3, 0, s2⟩ : En)] (lastOf 1 1 [(⟨2, 3, 0, s2⟩ : En)]).1 = (c2.says, 1) from rfl] at hcc ⊢
  obtain ⟨c3, rfl, hs3, hv3, hl3, hbc⟩ := hcc.own
  obtain ⟨Y, hY⟩ : ∃ Y, Y = wc.alloc (.cells #[.slice c3.v.a c3.v.len c3.v.cap, .slice c3.l.a c3.l.len c3.l.cap] 27) := ⟨_, rfl⟩
  have hbY : Below w7.heap.size w7 Y := hY ▸ below_alloc (below_then hb79 hbc) _
  have hYb : Y.heap[wc.heap.size]? = some (.cells #[.slice c3.v.a c3.v.len c3.v.cap, .slice c3.l.a c3.l.len c3.l.cap] 27 (0, 0)) := hY ▸ heap_alloc_new wc _
  have hcY : c3.ok Y := hY ▸ (Cf.ok_of_own hv3 hl3).below ((Below.refl _ _).alloc (Nat.le_refl _) _)
  have hln3 : c3.v.len ≤ 1000000000000 ∧ c3.l.len ≤ 1000000000000 := by
    have h1 := hv3.len
    have h2 := hl3.len
    have h3 := hs3.trans HS7.out
    simp only [Cf.says, Prod.mk.injEq] at h3
    rw [h3.1] at h1
    rw [h3.2] at h2
    simp at h1 h2
    omega
  go_wp2_with fail
  rw [← hY]
  have hce : ∀ w', Below Y.heap.size Y w' → (w'.cell? ⟨wc.heap.size, 0, none⟩ = some (.slice c3.v.a c3.v.len c3.v.cap) ∧ w'.cell? ⟨wc.heap.size, 1, none⟩ = some (.slice c3.l.a c3.l.len c3.l.cap)) := fun w' hb => by
    obtain ⟨x0, x1, _, _⟩ := two_cells ((hb.block _ (lt_of_block hYb)).trans hYb)
    exact ⟨x0, x1⟩
  obtain ⟨x0, x1, _, _⟩ := two_cells hYb
  have HCE := Lib.hid hce
  have HBY := Lib.hid hbY
  have HCY := Lib.hid hcY
  have HS3 := Lib.hid (hs3.trans HS7.out)
  clear hce hbY hcY hs3 hY hYb hv3 hl3 hbc hcc hb79 hb8 hb9
  have hhas : hasOf 1 1 [(⟨2, 3, 0, s2⟩ : En)] 2 3 = true := rfl
  have hlen1 : (entriesOf 1 [(⟨2, 3, 0, s2⟩ : En)] 0 9).length = 1 := rfl
  have HHAS := Lib.hid hhas
  have HLEN := Lib.hid hlen1
  clear hhas hlen1
  go_region_held3 (fun w' => w'.cell? ⟨wc.heap.size, 0, none⟩ = some (.slice c3.v.a c3.v.len c3.v.cap) ∧ w'.cell? ⟨wc.heap.size, 1, none⟩ = some (.slice c3.l.a c3.l.len c3.l.cap))
    (first | exact HCE.out _ hY4 | exact HCE.out _ hY3 | exact HCE.out _ hY2 | exact HCE.out _ hY1 | exact HCE.out _ (Below.refl _ _).drew | go_keep)
    (first
      | (go_at_call 30; refine (HHS.out _ (below_then HBY.out (Below.refl _ _).drew)).mono ?_; rintro e u1 ⟨rfl, hu1⟩; rw [HHAS.out]; have hY1 : Below Y.heap.size Y u1 := below_then (Below.refl _ _).drew hu1; clear hu1)
      | (go_at_call 18; refine (HEN.out _ (below_then HBY.out hY1)).mono ?_; rintro e u2 ⟨ls, aw, cw, rfl, hlsay, hlo, hu2⟩; rw [HLEN.out]; have hY2 : Below Y.heap.size Y u2 := below_then hY1 hu2; clear hu2 hlo hlsay)
      | (go_at_call 8; refine (first_any _).mono ?_; rintro e u3 ⟨c4, rfl, hs4, hv4, hl4, hu3⟩; have hY3 : Below Y.heap.size Y u3 := below_then hY2 hu3; have HC4 := Lib.hid (Cf.ok_of_own hv4 hl4); have HS4 := Lib.hid hs4; clear hu3 hs4 hv4 hl4)
      | (go_at_call 15; refine (confSame_any c3 c4 _ (HCY.out.below hY3) HC4.out hln3).mono ?_; rintro e u4 ⟨rfl, hu4⟩; rw [show decide (c3.says = c4.says) = true from decide_eq_true (HS3.out.trans HS4.out.symm)]; have hY4 : Below Y.heap.size Y u4 := below_then hY3 hu4; clear hu4))
  all_goals
    go_wp2_with fail
    go_ret
    exact ⟨rfl, below_then HBW7.out (below_then HBY.out hY4)⟩
end Go.Proofs.Ytpaommkjafdghaa
