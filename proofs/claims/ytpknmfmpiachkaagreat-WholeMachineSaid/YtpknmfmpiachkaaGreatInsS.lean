/- slices.Insert at a table's items. -/
import Derived.Test.YtpknmfmpiachkaaGreatIns0
namespace Go.Proofs.YtpknmfmpiachkaaGreat
open Go.RowKit
theorem info_insS : (Tryz.prog.info? 161).map (fun i => (i.zero, i.size, i.bytes)) = some (some ((.agg #[.int .i64 0, .int .i64 0, .int .i64 0])), 3, 24) := by kernel_rfl
set_option maxRecDepth 100000 in
set_option maxHeartbeats 6400000 in
theorem insS_end (base : Nat) (ao : Option Addr) (n cap : Nat) (xs vs : List Value) (vb : Nat) (w : World) (hown : w.ownsRow base 161 3 (.slice ao n cap) n xs) (hv : RowN w (some ⟨vb, 0, none⟩) 3 1 vs) (hv1 : ∀ u ∈ vs, u.oneCell' = true) (hn : n ≤ 1000000) (hbase : base ≤ w.heap.size) :
 Calls Tryz.prog 86 #[.slice ao n cap, .int .i64 (n : Nat), .slice (some ⟨vb, 0, none⟩) 1 1] w (InsPost base 161 3 w ao n cap n xs vs) := by
 obtain ⟨i0, hi, hz0, hz1, hz2⟩ := info_parts info_insS
 have hcp := own_cap hown
 have hcp1 := hcp.1
 have hcp2 := hcp.2.1
 unfold maxLen at hcp2
 have hnn : (((n : Nat) : Int) == ((n : Nat) : Int)) = true := by simp
 have hi0 : (0 : Int) ≤ (n : Int) := by omega
 have hi1 : (n : Int) ≤ (cap : Int) := by omega
 have hnat : ((n : Int)).toNat = n := by omega
 have hxl := hown.1
 have HO := Lib.hid hown
 have HV := Lib.hid hv
 have HXL := Lib.hid hxl
 have HCP := Lib.hid hcp
 clear hown hv hxl hcp
 have fin : ∀ ao3 cp3 w3, w3.ownsRow base 161 3 (.slice ao3 (n + 1) cp3) (n + 1) (xs ++ vs) → w.grownBy w3 (Value.ownBlock (.slice ao n cap)) → (Value.ownBlock (.slice ao3 (n + 1) cp3) = Value.ownBlock (.slice ao n cap) ∨ Value.ownBlock (.slice ao3 (n + 1) cp3) = some w.heap.size) → InsPost base 161 3 w ao n cap n xs vs (.returned (.slice ao3 (n + 1) cp3)) w3 := fun ao3 cp3 w3 h1 h2 h3 => by
  refine ⟨ao3, cp3, rfl, ?_, h2, ?_⟩
  · rw [← HXL.out, List.take_length, List.drop_length, List.append_nil]; exact h1
  · rcases h3 with h3 | h3
    · exact .inl h3
    · exact .inr ⟨_, h3, Nat.le_refl _⟩
 have FIN := Lib.hid fin
 clear fin
 cases ao with
 | none =>
   have h0 := HCP.out.2.2 rfl
   have hn0 : n = 0 := by omega
   subst hn0
   subst h0
   clear hnn hi0 hi1 hnat
   go_enter Tryz.func86, Tryz.ntmps86
   go_wp2_with (at_builtin; refine wpList_append_row rfl (.tmp 23) (.tmp 24) 155 rfl base 161 i0 (.agg #[.int .i64 0, .int .i64 0, .int .i64 0]) 3 24 Tryz.underlying155 hi hz0 hz1 hz2 rfl (by decide) none 0 0 xs rfl HO.out (some ⟨vb, 0, none⟩) 1 1 vs rfl (by simpa using HV.out.1) HV.out.news (fun h => by cases h) hv1 (by simp [maxLen]) (by omega) hbase 1 rfl ?_; intro ao3 cp3 w3 hown3 hg3 hat3)
   go_ret
   exact FIN.out _ _ _ hown3 hg3 hat3
 | some ad =>
   obtain ⟨g, hg⟩ : ∃ g, ad = ⟨g, 0, none⟩ := by
    rcases HO.out.2 with ⟨h1, _⟩ | ⟨g, cp, cur, h1, _⟩
    · cases h1
    · injection h1 with h1 _ _
      injection h1 with h1
      exact ⟨g, h1⟩
   subst hg
   by_cases hcn : cap = n
   · subst hcn
     go_enter Tryz.func86, Tryz.ntmps86
     go_wp2_with (at_builtin; refine wpList_append_row rfl (.tmp 23) (.tmp 24) 155 rfl base 161 i0 (.agg #[.int .i64 0, .int .i64 0, .int .i64 0]) 3 24 Tryz.underlying155 hi hz0 hz1 hz2 rfl (by decide) (some ⟨g, 0, none⟩) cap cap xs rfl HO.out (some ⟨vb, 0, none⟩) 1 1 vs rfl (by simpa using HV.out.1) HV.out.news (fun h => by cases h) hv1 (by simp only [maxLen]; omega) (by omega) hbase (cap + 1) rfl ?_; intro ao3 cp3 w3 hown3 hg3 hat3)
     go_ret
     exact FIN.out _ _ _ hown3 hg3 hat3
   · go_enter Tryz.func86, Tryz.ntmps86
     go_wp2_with (at_builtin; refine wpList_append_row rfl (.tmp 23) (.tmp 24) 155 rfl base 161 i0 (.agg #[.int .i64 0, .int .i64 0, .int .i64 0]) 3 24 Tryz.underlying155 hi hz0 hz1 hz2 rfl (by decide) (some ⟨g, 0, none⟩) n cap xs rfl HO.out (some ⟨vb, 0, none⟩) 1 1 vs rfl (by simpa using HV.out.1) HV.out.news (fun h => by cases h) hv1 (by simp only [maxLen]; omega) (by omega) hbase (n + 1) rfl ?_; intro ao3 cp3 w3 hown3 hg3 hat3)
     go_ret
     exact FIN.out _ _ _ hown3 hg3 hat3
theorem insS_size (w : World) : (Go.sizeOf 161).run Tryz.prog w = .ok 3 w := by kernel_rfl
theorem insS_isz : (Tryz.prog.info? 161).map (·.size) = some 3 := by kernel_rfl
set_option maxRecDepth 100000 in
set_option maxHeartbeats 6400000 in
theorem insS_shift (base g i n cap : Nat) (xs vs : List Value) (vb : Nat) (w : World) (hown : w.ownsRow base 161 3 (.slice (some ⟨g, 0, none⟩) n cap) n xs) (hx1 : ∀ u ∈ xs, u.oneCell' = true) (hv : w.heap[vb]? = some (.cells vs.toArray 161 (0, 0))) (hvl : vs.length = 3) (hv1 : ∀ u ∈ vs, u.oneCell' = true) (hgv : vb ≠ g) (hi : i < n) (hroom : n + 1 ≤ cap) (hn : n ≤ 1000000) :
 Calls Tryz.prog 86 #[.slice (some ⟨g, 0, none⟩) n cap, .int .i64 (i : Nat), .slice (some ⟨vb, 0, none⟩) 1 1] w (InsPost base 161 3 w (some ⟨g, 0, none⟩) n cap i xs vs) := by
 have hcp := own_cap hown
 have hcp2 := hcp.2.1
 unfold maxLen at hcp2
 obtain ⟨cur, hcur, hcsz, hctk, hbg⟩ : ∃ cur : List Value, w.heap[g]? = some (.cells cur.toArray 161 (0, 0)) ∧ cur.length = cap * 3 ∧ cur.take (n * 3) = xs ∧ base ≤ g := by
  rcases hown.2 with ⟨h1, _⟩ | ⟨g', cp, cur, h1, h2, h3, h4, h5, h6, h7⟩
  · cases h1
  · simp only [Value.slice.injEq, Option.some.injEq, Addr.mk.injEq, and_true, true_and] at h1
    obtain ⟨rfl, rfl⟩ := h1
    exact ⟨cur.toList, by rw [Array.toArray_toList]; exact h3, by rw [Array.length_toList]; exact h6, h7, h2⟩
 have hxl : xs.length = n * 3 := hown.1
 have hrow : ∀ j u, xs[j]? = some u → w.cell? ⟨g, j, none⟩ = some u := fun j u hu => by
  obtain ⟨b, off, hb, hc⟩ := (RowN.of_own hown).2 (by omega)
  simp only [Option.some.injEq, Addr.mk.injEq, and_true] at hb
  obtain ⟨rfl, rfl⟩ := hb
  have := hc j u hu
  rwa [Nat.zero_add] at this
 have hsome : ∀ (Z : World) (c2 : List Value), Z.heap[g]? = some (.cells c2.toArray 161 (0, 0)) → c2.length = cap * 3 → ∀ j, j < (n + 1) * 3 → (Z.cell? ⟨g, j, none⟩).isSome = true := fun Z c2 hZ hl j hj => by
  have : j < c2.length := by rw [hl]; exact Nat.lt_of_lt_of_le hj (Nat.mul_le_mul_right _ hroom)
  simp [World.cell?, hZ, this]
 have hfrz : ∀ (Z : World) (c2 : List Value), Z.heap[g]? = some (.cells c2.toArray 161 (0, 0)) → ∀ j, Z.frozen? ⟨g, j, none⟩ = false := fun Z c2 hZ j => by
  simp [World.frozen?, hZ]
 have hdl : (xs.drop (i * 3)).length = (n - i) * 3 := by rw [List.length_drop, hxl, Nat.sub_mul]
 have hcp1 : ∀ ty dl dc sl sc, Nat.min sl dl = n - i → (Builtin.copy_ #[155, 155] ty #[.slice (some ⟨g, (i + 1) * 3, none⟩) dl dc, .slice (some ⟨g, i * 3, none⟩) sl sc]).run Tryz.prog w.drew = .ok (goInt ((n - i : Nat) : Int)) (w.drew.setCells g ((i + 1) * 3) (xs.drop (i * 3))) := fun ty dl dc sl sc hm => by
  rw [← hm]
  refine run_copyK w.drew _ _ ty 161 3 g ((i + 1) * 3) dl dc ⟨g, i * 3, none⟩ sl sc (xs.drop (i * 3)) Tryz.underlying155 insS_isz (by rw [hdl, hm]) (fun j v hj => ?_) (fun j hj => ?_) (fun j _ => hfrz w cur hcur _) (fun v hv => hx1 v (List.mem_of_mem_drop hv))
  · rw [add_plain]
    exact hrow _ _ (by rwa [List.getElem?_drop] at hj)
  · refine hsome w cur hcur hcsz _ ?_
    rw [hdl] at hj
    have : (i + 1) * 3 + (n - i) * 3 = (n + 1) * 3 := by rw [← Nat.add_mul]; congr 1; omega
    omega
 have hsp1 : (i + 1) * 3 + (xs.drop (i * 3)).length ≤ cur.length := by
  rw [hdl, hcsz, ← Nat.add_mul]
  exact Nat.mul_le_mul_right _ (by omega)
 obtain ⟨W1, hW1⟩ : ∃ W1, W1 = w.drew.setCells g ((i + 1) * 3) (xs.drop (i * 3)) := ⟨_, rfl⟩
 have hB1 : W1.heap[g]? = some (.cells (splice cur ((i + 1) * 3) (xs.drop (i * 3))).toArray 161 (0, 0)) := by
  rw [hW1]; exact setCells_block g 161 (0, 0) _ _ w.drew cur hcur hsp1
 have hT1 : Touch [g] w W1 := by rw [hW1]; exact ((Touch.refl _ _).drew).trans (setCells_touch g _ _ _)
 have hl1 : (splice cur ((i + 1) * 3) (xs.drop (i * 3))).length = cap * 3 := by rw [length_splice _ _ _ hsp1, hcsz]
 have hV1 : W1.heap[vb]? = some (.cells vs.toArray 161 (0, 0)) := (hT1.block vb (lt_of_block hv) (by simpa using hgv)).trans hv
 have hcp2' : ∀ ty dl dc, 1 ≤ dl → (Builtin.copy_ #[155, 155] ty #[.slice (some ⟨g, i * 3, none⟩) dl dc, .slice (some ⟨vb, 0, none⟩) 1 1]).run Tryz.prog W1 = .ok (goInt 1) (W1.setCells g (i * 3) vs) := fun ty dl dc hm => by
  have hmin : Nat.min 1 dl = 1 := by simp only [Nat.min_def]; split <;> omega
  have := run_copyK W1 155 155 ty 161 3 g (i * 3) dl dc ⟨vb, 0, none⟩ 1 1 vs Tryz.underlying155 insS_isz (by rw [hmin, hvl]) (fun j v hj => by
   rw [add_plain, Nat.zero_add]
   have hjl := (List.getElem?_eq_some_iff.1 hj).1
   simp only [World.cell?, hV1]
   simpa using hj) (fun j hj => hsome W1 _ hB1 hl1 _ (by
    rw [hvl] at hj
    have : i * 3 + 3 ≤ (n + 1) * 3 := by rw [← Nat.succ_mul]; exact Nat.mul_le_mul_right _ (by omega)
    omega)) (fun j _ => hfrz W1 _ hB1 _) hv1
  rw [hmin] at this
  exact this
 have hsp2 : i * 3 + vs.length ≤ (splice cur ((i + 1) * 3) (xs.drop (i * 3))).length := by
  rw [hl1, hvl, ← Nat.succ_mul]
  exact Nat.mul_le_mul_right _ (by omega)
 have hB2 := setCells_block g 161 (0, 0) vs (i * 3) W1 _ hB1 hsp2
 have hT2 := hT1.trans (setCells_touch g vs (i * 3) W1)
 have hfin : (splice (splice cur ((i + 1) * 3) (xs.drop (i * 3))) (i * 3) vs).take ((n + 1) * 3) = xs.take (i * 3) ++ vs ++ xs.drop (i * 3) := by
  have hi1 : i * 3 ≤ (i + 1) * 3 := Nat.mul_le_mul_right _ (by omega)
  have hi2 : (i + 1) * 3 = i * 3 + 3 := by rw [Nat.succ_mul]
  have hin : i * 3 ≤ n * 3 := Nat.mul_le_mul_right _ (by omega)
  have hnc : (n + 1) * 3 ≤ cap * 3 := Nat.mul_le_mul_right _ hroom
  have hsum : (i + 1) * 3 + (n - i) * 3 = (n + 1) * 3 := by rw [← Nat.add_mul]; congr 1; omega
  have ht : cur.take (i * 3) = xs.take (i * 3) := by rw [← hctk, List.take_take, Nat.min_eq_left hin]
  have hc1 : i * 3 ≤ cur.length := by rw [hcsz]; omega
  have hc2 : (i + 1) * 3 ≤ cur.length := by rw [hcsz]; exact Nat.mul_le_mul_right _ (by omega)
  have hlt : (cur.take ((i + 1) * 3)).length = (i + 1) * 3 := by rw [List.length_take]; omega
  have hA : (splice cur ((i + 1) * 3) (xs.drop (i * 3))).take (i * 3) = xs.take (i * 3) := by
   unfold splice
   rw [List.take_append_of_le_length (by rw [hlt]; exact hi1), List.take_take, Nat.min_eq_left hi1, ht]
  have hB : (splice cur ((i + 1) * 3) (xs.drop (i * 3))).drop (i * 3 + 3) = xs.drop (i * 3) ++ cur.drop ((i + 1) * 3 + (xs.drop (i * 3)).length) := by
   unfold splice
   rw [← hi2, List.drop_append_of_le_length (by rw [hlt]; exact Nat.le_refl _), List.drop_of_length_le (by rw [hlt]; exact Nat.le_refl _), List.nil_append]
  generalize splice cur ((i + 1) * 3) (xs.drop (i * 3)) = S1 at hA hB
  unfold splice
  rw [hvl, hA, hB]
  have hlen : (xs.take (i * 3)).length = i * 3 := by rw [List.length_take, hxl]; omega
  rw [← List.append_assoc, ← List.append_assoc, List.take_append_of_le_length (by simp only [List.length_append]; rw [hlen, hvl, hdl]; omega)]
  rw [List.take_of_length_le (by simp only [List.length_append]; rw [hlen, hvl, hdl]; omega)]
 have hpost : InsPost base 161 3 w (some ⟨g, 0, none⟩) n cap i xs vs (.returned (.slice (some ⟨g, 0, none⟩) (n + 1) cap)) (W1.setCells g (i * 3) vs) := by
  refine ⟨some ⟨g, 0, none⟩, cap, rfl, ⟨?_, .inr ⟨g, cap, _, rfl, hbg, hB2, hroom, hcp.2.1, ?_, ?_⟩⟩, ⟨hT2.os, hT2.tape, hT2.output, hT2.size, fun k hk hne => hT2.block k hk (by simp; exact fun e => hne (by rw [e]; rfl))⟩, .inl rfl⟩
  · rw [← hfin, List.length_take, length_splice _ _ _ hsp2, hl1]
    exact Nat.min_eq_left (Nat.mul_le_mul_right _ hroom)
  · rw [List.size_toArray, length_splice _ _ _ hsp2, hl1]
  · rw [List.toList_toArray]; exact hfin
 have hov : ∀ lb cb, (callFunc 122 #[.slice (some ⟨vb, 0, none⟩) 1 1, .slice (some ⟨g, (i + 1) * 3, none⟩) lb cb]).run Tryz.prog w = .ok (.value (.bool false)) w := fun lb cb => by
  rw [run_callFunc_extern Tryz.func122 (by kernel_rfl) (by kernel_rfl) (by kernel_rfl) (e := Extern.SlicesOverlaps.overlaps #[155, 155] #[4]) (by kernel_rfl),
   Lib.run_overlaps_apart w 155 4 161 Tryz.underlying155 3 insS_size ⟨vb, 0, none⟩ ⟨g, (i + 1) * 3, none⟩ 1 1 lb cb hgv 161 161 vs.toArray.size cur.toArray.size (by simp [World.shape?, hv]) (by simp [World.shape?, hcur]) (by rw [List.size_toArray, hcsz]; have := Nat.mul_le_mul_right 3 hroom; omega) (by simp [World.frozen?, hv]) (by simp [World.frozen?, hv])]
  rfl
 rw [← hW1] at hcp1
 have HP := Lib.hid hpost
 have HC1 := Lib.hid hcp1
 have HC2 := Lib.hid hcp2'
 have HV1 := Lib.hid hV1
 clear hpost hcp1 hcp2' hcur hcsz hctk hxl hrow hsome hfrz hdl hsp1 hB1 hT1 hl1 hV1 hsp2 hB2 hT2 hfin hown hx1 hv hvl hv1 hcp
 have k1 : ((i : Int) == (n : Int)) = false := by simp; omega
 have k2 : (0 : Int) ≤ (i : Int) := by omega
 have k3 : (i : Int) ≤ (n : Int) := by omega
 have k4 : ((i : Int)).toNat = i := by omega
 have k5 : ¬ cap = i := by omega
 have k6 : ¬ cap = i + 1 := by omega
 have k7 : IntKind.i64.wrap ((n : Int) + 1) = (n : Int) + 1 := by rw [IntKind.wrap_i64] <;> omega
 have k8 : IntKind.i64.wrap ((i : Int) + 1) = (i : Int) + 1 := by rw [IntKind.wrap_i64] <;> omega
 have k9 : ¬ (cap : Int) < (n : Int) + 1 := by omega
 have k10 : (0 : Int) ≤ (n : Int) + 1 := by omega
 have k11 : (n : Int) + 1 ≤ (cap : Int) := by omega
 have k12 : ((n : Int) + 1).toNat = n + 1 := by omega
 have k13 : ((i : Int) + 1).toNat = i + 1 := by omega
 have k14 : (0 : Int) ≤ (i : Int) + 1 := by omega
 have k15 : (i : Int) + 1 ≤ (n : Int) + 1 := by omega
 have k16 : (i : Int) ≤ (n : Int) + 1 := by omega
 have k17 : (i : Int) ≤ (cap : Int) := by omega
 have k18 : (i : Int) + 1 ≤ (cap : Int) := by omega
 clear hW1
 have hq := HC1.out 3 (n - i) (cap - (i + 1)) (n + 1 - i) (cap - i) (by simp only [Nat.min_def]; split <;> omega)
 have hq2 := HC2.out 3 (n + 1 - i) (cap - i) (by omega)
 go_enter Tryz.func86, Tryz.ntmps86
 go_wp2_with (simp only [hov])
 go_region
 go_wp2_with (at_builtin; refine wpList_copyR _ rfl (.tmp 80) (.tmp 81) 155 155 rfl (.slice (some ⟨g, i * 3, none⟩) (n + 1 - i) (cap - i)) (.slice (some ⟨vb, 0, none⟩) 1 1) (by simp [Act.eval, Act.put]) (by simp [Act.eval, Act.put]) hq2 ?_)
 go_ret
 exact HP.out
set_option maxRecDepth 100000 in
set_option maxHeartbeats 6400000 in
theorem insS_grow (base g i n cap : Nat) (xs vs : List Value) (vb : Nat) (w : World) (hown : w.ownsRow base 161 3 (.slice (some ⟨g, 0, none⟩) n cap) n xs) (hx1 : ∀ u ∈ xs, u.oneCell' = true) (hv : w.heap[vb]? = some (.cells vs.toArray 161 (0, 0))) (hvl : vs.length = 3) (hv1 : ∀ u ∈ vs, u.oneCell' = true) (hi : i < n) (hroom : cap < n + 1) (hn : n ≤ 1000000) (hbase : base ≤ w.heap.size) :
 Calls Tryz.prog 86 #[.slice (some ⟨g, 0, none⟩) n cap, .int .i64 (i : Nat), .slice (some ⟨vb, 0, none⟩) 1 1] w (InsPost base 161 3 w (some ⟨g, 0, none⟩) n cap i xs vs) := by
 obtain ⟨i0, hi0, hz0, hz1, hz2⟩ := info_parts info_insS
 have hcp := own_cap hown
 have hcpn : cap = n := by omega
 subst hcpn
 obtain ⟨cur, hcur, hcsz, hctk, hbg⟩ : ∃ cur : List Value, w.heap[g]? = some (.cells cur.toArray 161 (0, 0)) ∧ cur.length = cap * 3 ∧ cur.take (cap * 3) = xs ∧ base ≤ g := by
  rcases hown.2 with ⟨h1, _⟩ | ⟨g', cp, cur, h1, h2, h3, h4, h5, h6, h7⟩
  · cases h1
  · simp only [Value.slice.injEq, Option.some.injEq, Addr.mk.injEq, and_true, true_and] at h1
    obtain ⟨rfl, rfl⟩ := h1
    exact ⟨cur.toList, by rw [Array.toArray_toList]; exact h3, by rw [Array.length_toList]; exact h6, h7, h2⟩
 have hxl : xs.length = cap * 3 := hown.1
 have hgw : g < w.heap.size := lt_of_block hcur
 have hvw : vb < w.heap.size := lt_of_block hv
 have hrow : ∀ j u, xs[j]? = some u → w.cell? ⟨g, j, none⟩ = some u := fun j u hu => by
  obtain ⟨b, off, hb, hc⟩ := (RowN.of_own hown).2 (by omega)
  simp only [Option.some.injEq, Addr.mk.injEq, and_true] at hb
  obtain ⟨rfl, rfl⟩ := hb
  have := hc j u hu
  rwa [Nat.zero_add] at this
 have hik : i + (cap + 1 - i) = cap + 1 := by omega
 have hold : (Builtin.firstCells i0.size i (.slice (some ⟨g, 0, none⟩) i cap)).run Tryz.prog w.drew = .ok (xs.take (i * 3)).toArray w.drew := by
  rw [hz1]
  exact run_firstCells_some w.drew 3 i ⟨g, 0, none⟩ i cap (xs.take (i * 3)) (by rw [List.length_take, hxl]; exact Nat.min_eq_left (Nat.mul_le_mul_right _ (by omega))) (fun j v hj => by
   rw [add_plain, Nat.zero_add]
   rw [List.getElem?_take] at hj
   split at hj
   · exact hrow j v hj
   · cases hj)
 have hkk : (cap : Int) + 1 - (i : Int) = ((cap + 1 - i : Nat) : Int) := by omega
 have hrz0 : ∀ ty, (Builtin.append_ #[155, 3] ty #[.slice (some ⟨g, 0, none⟩) i cap, .int .i64 ((cap : Int) + 1 - (i : Int))]).run Tryz.prog w =
  .ok (.slice (some ⟨w.heap.size, 0, none⟩) (cap + 1) (grownCap w (cap + 1) cap 161)) (w.drew.alloc (.cells ((xs.take (i * 3)).toArray ++ Builtin.zeroCells ((.agg #[.int .i64 0, .int .i64 0, .int .i64 0]) : Value).cells (cap + 1 - i) ++ Builtin.zeroCells ((.agg #[.int .i64 0, .int .i64 0, .int .i64 0]) : Value).cells (grownCap w (cap + 1) cap 161 - (cap + 1))) 161)) := fun ty => by
  have h := Lib.run_append_grow_zeros w 155 3 ty 161 i0 (.agg #[.int .i64 0, .int .i64 0, .int .i64 0]) .i64 .i64 Tryz.underlying155 Tryz.underlying3 hi0 hz0 (some ⟨g, 0, none⟩) i cap (xs.take (i * 3)).toArray.toList (by rw [Array.toArray_toList]; exact hold) (cap + 1 - i) (by omega) (by rw [hz1]; omega) (by omega) (by omega) (by rw [hz2]; omega) (by rw [hz2, hik]; exact growslice_fits hroom (by omega))
  rw [hik] at h
  rw [hkk]
  exact h
 have hGn : cap + 1 ≤ grownCap w (cap + 1) cap 161 := grownCap_ge w _ _ _
 have hGm : grownCap w (cap + 1) cap 161 ≤ maxLen := grownCap_le_maxLen w (cap + 1) cap 161 (by unfold maxLen; omega)
 generalize grownCap w (cap + 1) cap 161 = G at hrz0 hGn hGm
 have hzl : ((.agg #[.int .i64 0, .int .i64 0, .int .i64 0]) : Value).cells.size = 3 := rfl
 obtain ⟨ROW, hROW⟩ : ∃ ROW : List Value, ROW = xs.take (i * 3) ++ (Builtin.zeroCells ((.agg #[.int .i64 0, .int .i64 0, .int .i64 0]) : Value).cells (cap + 1 - i)).toList ++ (Builtin.zeroCells ((.agg #[.int .i64 0, .int .i64 0, .int .i64 0]) : Value).cells (G - (cap + 1))).toList := ⟨_, rfl⟩
 have hlen : (xs.take (i * 3)).length = i * 3 := by rw [List.length_take, hxl]; exact Nat.min_eq_left (Nat.mul_le_mul_right _ (by omega))
 have hRl : ROW.length = G * 3 := by
  rw [hROW, List.length_append, List.length_append, hlen, Array.length_toList, Array.length_toList, size_zeroCells, size_zeroCells, hzl, ← Nat.add_mul, ← Nat.add_mul]
  congr 1
  omega
 have hRt : ROW.take (i * 3) = xs.take (i * 3) := by
  rw [hROW, List.append_assoc, List.take_append_of_le_length (by rw [hlen]; exact Nat.le_refl _), List.take_of_length_le (by rw [hlen]; exact Nat.le_refl _)]
 have hrow2 : (xs.take (i * 3)).toArray ++ Builtin.zeroCells ((.agg #[.int .i64 0, .int .i64 0, .int .i64 0]) : Value).cells (cap + 1 - i) ++ Builtin.zeroCells ((.agg #[.int .i64 0, .int .i64 0, .int .i64 0]) : Value).cells (G - (cap + 1)) = ROW.toArray := by rw [hROW]; simp
 obtain ⟨W1, hW1⟩ : ∃ W1, W1 = w.drew.alloc (.cells ROW.toArray 161) := ⟨_, rfl⟩
 have hrz : ∀ ty, (Builtin.append_ #[155, 3] ty #[.slice (some ⟨g, 0, none⟩) i cap, .int .i64 ((cap : Int) + 1 - (i : Int))]).run Tryz.prog w = .ok (.slice (some ⟨w.heap.size, 0, none⟩) (cap + 1) G) W1 := fun ty => by
  rw [hrz0 ty, hrow2, hW1]
 clear hrz0 hrow2 hROW
 have hT1 : Touch [w.heap.size] w W1 := by rw [hW1]; exact ((Touch.refl _ _).drew).trans (Touch.alloc _ _ _)
 have hB1 : W1.heap[w.heap.size]? = some (.cells ROW.toArray 161 (0, 0)) := by rw [hW1]; exact heap_alloc_new w.drew _
 have hV1 : W1.heap[vb]? = some (.cells vs.toArray 161 (0, 0)) := (hT1.block vb hvw (by simp; omega)).trans hv
 have hO1 : W1.heap[g]? = some (.cells cur.toArray 161 (0, 0)) := (hT1.block g hgw (by simp; omega)).trans hcur
 have hsp1 : i * 3 + vs.length ≤ ROW.length := by rw [hvl, hRl, ← Nat.succ_mul]; exact Nat.mul_le_mul_right _ (by omega)
 have hisz : i * 3 + 3 = (i + 1) * 3 := by rw [Nat.succ_mul]
 have hS1t : (splice ROW (i * 3) vs).take ((i + 1) * 3) = xs.take (i * 3) ++ vs := by
  unfold splice
  rw [hRt, ← List.append_assoc, List.take_append_of_le_length (by rw [List.length_append, hlen, hvl]; omega), List.take_of_length_le (by rw [List.length_append, hlen, hvl]; omega)]
 have hS1l : (splice ROW (i * 3) vs).length = G * 3 := by rw [length_splice _ _ _ hsp1, hRl]
 have hcpA : ∀ ty, (Builtin.copy_ #[155, 155] ty #[.slice (some ⟨w.heap.size, i * 3, none⟩) (cap + 1 - i) (G - i), .slice (some ⟨vb, 0, none⟩) 1 1]).run Tryz.prog W1 = .ok (goInt 1) (W1.setCells w.heap.size (i * 3) vs) := fun ty => by
  have hmin : Nat.min 1 (cap + 1 - i) = 1 := by simp only [Nat.min_def]; split <;> omega
  have := run_copyK W1 155 155 ty 161 3 w.heap.size (i * 3) (cap + 1 - i) (G - i) ⟨vb, 0, none⟩ 1 1 vs Tryz.underlying155 insS_isz (by rw [hmin, hvl]) (fun j v hj => by
   rw [add_plain, Nat.zero_add]
   simp only [World.cell?, hV1]
   simpa using hj) (fun j hj => by
   have : i * 3 + j < ROW.length := by omega
   simp [World.cell?, hB1, this]) (fun j _ => by simp [World.frozen?, hB1]) hv1
  rw [hmin] at this
  exact this
 have hB2 := setCells_block w.heap.size 161 (0, 0) vs (i * 3) W1 _ hB1 hsp1
 have hT2 := hT1.trans (setCells_touch w.heap.size vs (i * 3) W1)
 obtain ⟨W2, hW2⟩ : ∃ W2, W2 = W1.setCells w.heap.size (i * 3) vs := ⟨_, rfl⟩
 rw [← hW2] at hcpA hB2 hT2
 have hO2 : W2.heap[g]? = some (.cells cur.toArray 161 (0, 0)) := (hT2.block g hgw (by simp; omega)).trans hcur
 have hdl : (xs.drop (i * 3)).length = (cap - i) * 3 := by rw [List.length_drop, hxl, Nat.sub_mul]
 have hsum : (i + 1) * 3 + (cap - i) * 3 = (cap + 1) * 3 := by rw [← Nat.add_mul]; congr 1; omega
 have hnG : (cap + 1) * 3 ≤ G * 3 := Nat.mul_le_mul_right _ hGn
 have hsp2 : (i + 1) * 3 + (xs.drop (i * 3)).length ≤ (splice ROW (i * 3) vs).length := by rw [hS1l, hdl]; omega
 have hcpB : ∀ ty, (Builtin.copy_ #[155, 155] ty #[.slice (some ⟨w.heap.size, (i + 1) * 3, none⟩) (cap - i) (G - (i + 1)), .slice (some ⟨g, i * 3, none⟩) (cap - i) (cap - i)]).run Tryz.prog W2.drew = .ok (goInt ((cap - i : Nat) : Int)) (W2.drew.setCells w.heap.size ((i + 1) * 3) (xs.drop (i * 3))) := fun ty => by
  have hmin : Nat.min (cap - i) (cap - i) = cap - i := Nat.min_self _
  have := run_copyK W2.drew 155 155 ty 161 3 w.heap.size ((i + 1) * 3) (cap - i) (G - (i + 1)) ⟨g, i * 3, none⟩ (cap - i) (cap - i) (xs.drop (i * 3)) Tryz.underlying155 insS_isz (by rw [hmin, hdl]) (fun j v hj => by
   rw [add_plain]
   rw [List.getElem?_drop, ← hctk, List.getElem?_take] at hj
   split at hj
   · have hh : W2.drew.heap[g]? = some (.cells cur.toArray 161 (0, 0)) := hO2
     simp only [World.cell?, hh]
     simpa using hj
   · cases hj) (fun j hj => by
   have hh : W2.drew.heap[w.heap.size]? = some (.cells (splice ROW (i * 3) vs).toArray 161 (0, 0)) := hB2
   have : (i + 1) * 3 + j < (splice ROW (i * 3) vs).length := by omega
   simp [World.cell?, hh, this]) (fun j _ => by
   have hh : W2.drew.heap[w.heap.size]? = some (.cells (splice ROW (i * 3) vs).toArray 161 (0, 0)) := hB2
   simp [World.frozen?, hh]) (fun v hv => hx1 v (List.mem_of_mem_drop hv))
  rw [hmin] at this
  exact this
 have hB3 := setCells_block w.heap.size 161 (0, 0) (xs.drop (i * 3)) ((i + 1) * 3) W2.drew _ hB2 hsp2
 have hT3 := (hT2.drew).trans (setCells_touch w.heap.size (xs.drop (i * 3)) ((i + 1) * 3) W2.drew)
 have hfin : (splice (splice ROW (i * 3) vs) ((i + 1) * 3) (xs.drop (i * 3))).take ((cap + 1) * 3) = xs.take (i * 3) ++ vs ++ xs.drop (i * 3) := by
  generalize splice ROW (i * 3) vs = S1 at hS1t
  unfold splice
  rw [hS1t, ← List.append_assoc, List.take_append_of_le_length (by simp only [List.length_append]; rw [hlen, hvl, hdl]; omega)]
  rw [List.take_of_length_le (by simp only [List.length_append]; rw [hlen, hvl, hdl]; omega)]
 obtain ⟨W3, hW3⟩ : ∃ W3, W3 = W2.drew.setCells w.heap.size ((i + 1) * 3) (xs.drop (i * 3)) := ⟨_, rfl⟩
 have hS3l : (splice (splice ROW (i * 3) vs) ((i + 1) * 3) (xs.drop (i * 3))).length = G * 3 := by rw [length_splice _ _ _ hsp2, hS1l]
 rw [← hW3] at hcpB hB3 hT3
 have hpost : InsPost base 161 3 w (some ⟨g, 0, none⟩) cap cap i xs vs (.returned (.slice (some ⟨w.heap.size, 0, none⟩) (cap + 1) G)) W3 := by
  refine ⟨some ⟨w.heap.size, 0, none⟩, G, rfl, ⟨?_, .inr ⟨w.heap.size, G, _, rfl, hbase, hB3, hGn, hGm, ?_, ?_⟩⟩, ⟨hT3.os, hT3.tape, hT3.output, hT3.size, fun k hk hne => hT3.block k hk (by simp; omega)⟩, .inr ⟨w.heap.size, rfl, Nat.le_refl _⟩⟩
  · rw [← hfin, List.length_take, hS3l]
    exact Nat.min_eq_left hnG
  · rw [List.size_toArray, hS3l]
  · rw [List.toList_toArray]; exact hfin
 have q1 := hrz 155
 have q2 := hcpA 3
 have q3 := hcpB 3
 have HP := Lib.hid hpost
 unfold maxLen at hGm
 have k1 : ((i : Int) == (cap : Int)) = false := by simp; omega
 have k2 : (0 : Int) ≤ (i : Int) := by omega
 have k3 : (i : Int) ≤ (cap : Int) := by omega
 have k4 : ((i : Int)).toNat = i := by omega
 have k5 : ¬ cap = i := by omega
 have k6 : ¬ G = i := by omega
 have k6' : ¬ G = i + 1 := by omega
 have k7 : IntKind.i64.wrap ((cap : Int) + 1) = (cap : Int) + 1 := by rw [IntKind.wrap_i64] <;> omega
 have k7' : IntKind.i64.wrap ((cap : Int) + 1 - (i : Int)) = (cap : Int) + 1 - (i : Int) := by rw [IntKind.wrap_i64] <;> omega
 have k8 : IntKind.i64.wrap ((i : Int) + 1) = (i : Int) + 1 := by rw [IntKind.wrap_i64] <;> omega
 have k9 : (cap : Int) < (cap : Int) + 1 := by omega
 have k13 : ((i : Int) + 1).toNat = i + 1 := by omega
 have k14 : (0 : Int) ≤ (i : Int) + 1 := by omega
 have k15 : (i : Int) + 1 ≤ (cap : Int) + 1 := by omega
 have k16 : (i : Int) ≤ (cap : Int) + 1 := by omega
 have k17 : (i : Int) + 1 ≤ (G : Int) := by omega
 have k18 : cap + 1 - (i + 1) = cap - i := by omega
 clear hpost hrz hcpA hcpB hcur hcsz hctk hxl hrow hdl hsp1 hB1 hT1 hV1 hO1 hO2 hsp2 hB2 hT2 hB3 hT3 hfin hown hx1 hv hvl hv1 hcp hold hkk hik hW1 hW2 hW3 hS1t hS1l hS3l hRt hRl hlen hsum hnG hisz hzl hz0 hi0
 go_enter Tryz.func86, Tryz.ntmps86
 go_wp2_with (first
  | (at_builtin; refine Lib.wpList_append_run _ rfl _ _ _ _ rfl _ _ rfl rfl _ _ q1 ?_)
  | (at_builtin; refine wpList_copyR _ rfl (.tmp 43) (.tmp 44) 155 155 rfl (.slice (some ⟨w.heap.size, i * 3, none⟩) (cap + 1 - i) (G - i)) (.slice (some ⟨vb, 0, none⟩) 1 1) (by simp [Act.eval, Act.put]) (by simp [Act.eval, Act.put]) q2 ?_))
 go_region
 go_wp2
 go_ret
 exact HP.out
theorem insS_any (base : Nat) (ao : Option Addr) (n cap i : Nat) (xs vs : List Value) (vb : Nat) (w : World) (hown : w.ownsRow base 161 3 (.slice ao n cap) n xs) (hx1 : ∀ u ∈ xs, u.oneCell' = true) (hv : w.heap[vb]? = some (.cells vs.toArray 161 (0, 0))) (hvl : vs.length = 3) (hv1 : ∀ u ∈ vs, u.oneCell' = true) (hgv : ∀ g, ao = some g → vb ≠ g.block) (hi : i ≤ n) (hn : n ≤ 1000000) (hbase : base ≤ w.heap.size) :
 Calls Tryz.prog 86 #[.slice ao n cap, .int .i64 (i : Nat), .slice (some ⟨vb, 0, none⟩) 1 1] w (InsPost base 161 3 w ao n cap i xs vs) := by
 have hv' : RowN w (some ⟨vb, 0, none⟩) 3 1 vs := by
  refine ⟨by rw [hvl], fun _ => ⟨vb, 0, rfl, fun j v hj => ?_⟩⟩
  rw [Nat.zero_add]
  simp only [World.cell?, hv]
  simpa using hj
 by_cases hin : i = n
 · subst hin
   exact insS_end base ao i cap xs vs vb w hown hv' hv1 hn hbase
 · cases ao with
   | none =>
     have h0 := (own_cap hown).2.2 rfl
     have h1 := (own_cap hown).1
     omega
   | some ad =>
     obtain ⟨g, hg⟩ : ∃ g, ad = ⟨g, 0, none⟩ := by
      rcases hown.2 with ⟨h1, _⟩ | ⟨g, cp, cur, h1, _⟩
      · cases h1
      · injection h1 with h1 _ _
        injection h1 with h1
        exact ⟨g, h1⟩
     subst hg
     by_cases hr : n + 1 ≤ cap
     · exact insS_shift base g i n cap xs vs vb w hown hx1 hv hvl hv1 (hgv _ rfl) (by omega) hr hn
     · exact insS_grow base g i n cap xs vs vb w hown hx1 hv hvl hv1 (by omega) (by omega) hn hbase
end Go.Proofs.YtpknmfmpiachkaaGreat
