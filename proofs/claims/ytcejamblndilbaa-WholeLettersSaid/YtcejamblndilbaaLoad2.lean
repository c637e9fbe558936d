/- conf.Load: its closure, walked. -/
import Derived.Test.YtcejamblndilbaaLoad1
import Derived.RegionDies
namespace Go.Proofs.Ytcejamblndilbaa
open Go.RowKit

set_option maxRecDepth 100000 in
set_option maxHeartbeats 6400000 in
theorem load1_any (R C : Nat) (bs : List UInt8) (w : World) (hr : Rd w R bs) (hC : w.heap[C]? = some (.cells #[.slice none 0 0, .slice none 0 0] 26 (0, 0))) (hRC : R ≠ C) :
    Calls Try.prog 103 #[.pointer (some ⟨R, 0, none⟩), .pointer (some ⟨C, 0, none⟩)] w (LdPost w R C (readConf bs)) := by
  have hRl : R < w.heap.size := by obtain ⟨_, _, _, h, _⟩ := hr; exact lt_of_block h
  have hCl : C < w.heap.size := lt_of_block hC
  have HR := Lib.hid hr
  have HC := Lib.hid hC
  clear hr hC
  go_enter Try.func103, Try.ntmps103
  go_wp2_with fail
  obtain ⟨X, hX⟩ : ∃ X, X = w.alloc (.cells #[.pointer (some ⟨C, 0, none⟩), .pointer (some ⟨C, 1, none⟩)] 150) := ⟨_, rfl⟩
  have hXt : Touch [R, C] w X := hX ▸ Touch.alloc _ _ _
  have hXP : X.heap[w.heap.size]? = some (.cells #[.pointer (some ⟨C, 0, none⟩), .pointer (some ⟨C, 1, none⟩)] 150 (0, 0)) := hX ▸ heap_alloc_new w _
  have hXR : Rd X R bs := hX ▸ HR.out.below ((Below.refl _ _).alloc (Nat.le_refl _) _)
  have hXC : X.heap[C]? = some (.cells #[.slice none 0 0, .slice none 0 0] 26 (0, 0)) := hX ▸ (heap_alloc_old _ _ hCl).trans HC.out
  have hXs : X.heap.size = w.heap.size + 1 := by rw [hX, World.size_alloc]
  rw [← hX]
  clear hX
  have HXT := Lib.hid hXt
  have HXP := Lib.hid hXP
  have HXR := Lib.hid hXR
  have HXC := Lib.hid hXC
  have HXS := Lib.hid hXs
  clear hXt hXP hXR hXC hXs
  go_loopw [9] (fun i wr => ∃ (d : Nat) (vs ls : Is) (rest : List UInt8), i = .int .i64 d ∧ d ≤ 2 ∧ Hid (readStage d vs.zs ls.zs rest = readConf bs) ∧ Touch [R, C] w wr ∧ X.heap.size ≤ wr.heap.size ∧ Rd wr R rest ∧ Hid (wr.heap[C]? = some (.cells #[.slice vs.a vs.len vs.cap, .slice ls.a ls.len ls.cap] 26 (0, 0))) ∧ Hid (wr.heap[w.heap.size]? = some (.cells #[.pointer (some ⟨C, 0, none⟩), .pointer (some ⟨C, 1, none⟩)] 150 (0, 0))) ∧
    OwnZ wr (w.heap.size + 1) vs ∧ OwnZ wr (w.heap.size + 1) ls ∧ vs.len ≤ 7 ∧ ls.len ≤ 7 ∧ Hid ((d ≤ 1 → ls = ⟨none, 0, 0, []⟩) ∧ (d = 0 → vs = ⟨none, 0, 0, []⟩))) (fun i _ => 2 - (intOf i).toNat)
  case atStart =>
    exact ⟨0, ⟨none, 0, 0, []⟩, ⟨none, 0, 0, []⟩, bs, rfl, by omega, rfl, HXT.out, Nat.le_refl _, HXR.out, HXC, HXP, World.ownsRow_nil _ _ _ _, World.ownsRow_nil _ _ _ _, by simp, by simp, ⟨fun _ => rfl, fun _ => rfl⟩⟩
  case round =>
    obtain ⟨d, vs, ls, rest, rfl, hd, HST, ht, hzx, hrd, HCr, HPr, hvo, hlo, hv7, hl7, HNIL⟩ := hrel
    have hzw := ht.size
    have HT := Lib.hid ht
    have HRD := Lib.hid hrd
    have HVO := Lib.hid hvo
    have HLO := Lib.hid hlo
    clear ht hrd hvo hlo
    by_cases hd2 : d < 2
    · have hp : wr.cell? ⟨w.heap.size, d, none⟩ = some (.pointer (some ⟨C, d, none⟩)) := by
        have h01 : d = 0 ∨ d = 1 := by omega
        obtain ⟨q0, q1, _, _⟩ := two_cells HPr.out
        rcases h01 with rfl | rfl
        · exact q0
        · exact q1
      have hdi : (d : Int) < 2 := by omega
      cases hc : getCount 7 rest with
      | none =>
        have he : readConf bs = none := by
          rw [← HST.out]
          have hgr : readGrp rest = none := by rw [readGrp, hc]
          exact readStage_none hd2 hgr
        have HE := Lib.hid he
        have HCC := Lib.hid hc
        clear he hc
        go_wp2_with fail
        refine (count_none R rest _ HRD.out HCC.out).mono ?_
        rintro e w2 ⟨rfl, hg2⟩
        simp only [Wrong]
        go_wp2
        refine ⟨rfl, ?_⟩
        exact LdPost.mk_no (HT.out.trans (Touch.of_grown hg2 (by simp))) rfl HE.out
      | some q =>
        obtain ⟨n, r0⟩ := q
        have hnr := getCount_range hc
        obtain ⟨m, rfl⟩ : ∃ m : Nat, n = (m : Int) := ⟨n.toNat, by omega⟩
        have hm7 : m ≤ 7 := by omega
        have HCC := Lib.hid hc
        clear hc hnr
        go_wp2_with fail
        refine (count_some R rest r0 m _ HRD.out HCC.out).mono ?_
        rintro e w2 ⟨rfl, hrd2, hg2⟩
        have hz2 := hg2.size
        have hC2 := (hg2.block C (by omega) (fun e => hRC (by injection e with e; exact e.symm))).trans HCr.out
        have hP2 := (hg2.block w.heap.size (by have := lt_of_block HPr.out; omega) (fun e => by injection e; omega)).trans HPr.out
        have hv2 : OwnZ w2 (w.heap.size + 1) vs := own_keep HVO.out fun g hg hl => hg2.block g hl (fun e => by have := (HVO.out.lt g hg).1; injection e; omega)
        have hl2 : OwnZ w2 (w.heap.size + 1) ls := own_keep HLO.out fun g hg hl => hg2.block g hl (fun e => by have := (HLO.out.lt g hg).1; injection e; omega)
        obtain ⟨cs, hcs⟩ : ∃ cs : Array Value, cs = #[.slice vs.a vs.len vs.cap, .slice ls.a ls.len ls.cap] := ⟨_, rfl⟩
        have hcz : cs.size = 2 := by rw [hcs]; rfl
        have hcs0 : cs.setIfInBounds d (.slice none 0 0) = cs := by
          have h01 : d = 0 ∨ d = 1 := by omega
          rcases h01 with rfl | rfl
          · rw [hcs, HNIL.out.2 rfl]; rfl
          · rw [hcs, HNIL.out.1 (by omega)]; rfl
        rw [← hcs, ← hcs0] at hC2
        have ht2 := HT.out.trans (Touch.of_grown hg2 (S := [R, C]) (by simp))
        have HRD2 := Lib.hid hrd2
        have HC2 := Lib.hid hC2
        have HP2 := Lib.hid hP2
        have HV2 := Lib.hid hv2
        have HL2 := Lib.hid hl2
        have HCS := Lib.hid hcs
        have HT2 := Lib.hid ht2
        have hz2' := ht2.size
        clear hrd2 hC2 hP2 hv2 hl2 hcs ht2 hg2 hcs0
        obtain ⟨wo, rfl⟩ : ∃ wo, wo = wr := ⟨_, rfl⟩
        go_wp2_with fail
        go_loopw [15] (fun i wi => ∃ (k : Nat) (acc : Is) (rk : List UInt8), i = .int .i64 k ∧ k ≤ m ∧ acc.len = k ∧ Hid (readNs (m - k) rk acc.zs = readNs m r0 []) ∧ Touch [R, C] w wi ∧ X.heap.size ≤ wi.heap.size ∧ Rd wi R rk ∧ Hid (wi.heap[C]? = some (.cells (cs.setIfInBounds d (.slice acc.a acc.len acc.cap)) 26 (0, 0))) ∧ Hid (wi.heap[w.heap.size]? = some (.cells #[.pointer (some ⟨C, 0, none⟩), .pointer (some ⟨C, 1, none⟩)] 150 (0, 0))) ∧
          OwnZ wi (w.heap.size + 1) vs ∧ OwnZ wi (w.heap.size + 1) ls ∧ OwnZ wi (w.heap.size + 1) acc ∧ (∀ g, Value.ownBlock (.slice acc.a acc.len acc.cap) = some g → Value.ownBlock (.slice vs.a vs.len vs.cap) ≠ some g ∧ Value.ownBlock (.slice ls.a ls.len ls.cap) ≠ some g)) (fun i _ => m - (intOf i).toNat)
        case atStart =>
          exact ⟨0, ⟨none, 0, 0, []⟩, r0, rfl, by omega, rfl, rfl, HT2.out, by omega, HRD2.out, HC2, HP2, HV2.out, HL2.out, World.ownsRow_nil _ _ _ _, fun g h => by cases h⟩
        case round =>
          obtain ⟨k, ⟨ak, lk, ck, zk⟩, rk, rfl, hk, hak, HG, hti, hzi, hri, HCi, HPi, hvi, hli, hai, hap⟩ := hrel
          simp only at hak HG HCi hap
          subst hak
          obtain ⟨hcell, hfree⟩ := cell_in HCi.out (by omega)
          have HTI := Lib.hid hti
          have HRI := Lib.hid hri
          have HVI := Lib.hid hvi
          have HLI := Lib.hid hli
          have HAI := Lib.hid hai
          have HAP := Lib.hid hap
          have hziw := hti.size
          clear hti hri hvi hli hai hap
          by_cases hkm : lk < m
          · have hkmi : (lk : Int) < (m : Int) := by omega
            obtain ⟨j, hj⟩ : ∃ j, m - lk = j + 1 := ⟨m - lk - 1, by omega⟩
            cases hc2 : getCount 7 rk with
            | none =>
              have he : readConf bs = none := by
                rw [← HST.out]
                have hgr : readGrp rest = none := by
                  rw [readGrp, HCC.out]
                  show readNs ((m : Int).toNat) r0 [] = none
                  rw [Int.toNat_natCast, ← HG.out, hj, readNs, hc2]
                exact readStage_none hd2 hgr
              have HE := Lib.hid he
              have HC2c := Lib.hid hc2
              clear he hc2
              go_wp2_with fail
              go_region_dies
              all_goals
                refine (count_none R rk _ (by exact HRI.out) HC2c.out).mono ?_
                rintro e w3 ⟨rfl, hg3⟩
                simp only [Wrong]
                go_wp2
                refine ⟨rfl, ?_⟩
                exact LdPost.mk_no (HTI.out.trans (Touch.of_grown (grown_undrew hg3) (by simp))) rfl HE.out
            | some q2 =>
              obtain ⟨n2, r2⟩ := q2
              have hnr2 := getCount_range hc2
              obtain ⟨m2, rfl⟩ : ∃ m2 : Nat, n2 = (m2 : Int) := ⟨n2.toNat, by omega⟩
              have hg2 : readNs (m - (lk + 1)) r2 (zk ++ [(m2 : Int)]) = readNs m r0 [] := by
                rw [← HG.out, hj, readNs, hc2, show m - (lk + 1) = j by omega]
              have HG2 := Lib.hid hg2
              have HC2c := Lib.hid hc2
              have hwk : ∀ w3, wr.drew.grownBy w3 (some R) → w3.heap[C]? = some (.cells (cs.setIfInBounds d (.slice ak lk ck)) 26 (0, 0)) := fun w3 hg => (hg.block C (by have := lt_of_block HCi.out; exact this) (fun e => hRC (by injection e with e; exact e.symm))).trans HCi.out
              have hwo : ∀ w3 o, wr.drew.grownBy w3 (some R) → OwnZ (w3.alloc o) (w.heap.size + 1) ⟨ak, lk, ck, zk⟩ := fun w3 o hg => own_keep HAI.out fun g hgg hl => (heap_alloc_old w3 o (Nat.lt_of_lt_of_le hl hg.size)).trans (hg.block g hl (fun e => by have := (HAI.out.lt g hgg).1; injection e; omega))
              have HWK := Lib.hid hwk
              have HWO := Lib.hid hwo
              clear hc2 hg2 hnr2 hwk hwo
              go_wp2_with fail
              go_region_law (first
                | (go_simp; go_at_call 81; refine (count_some R rk r2 m2 _ (by exact HRI.out) HC2c.out).mono ?_; rintro e w3 ⟨rfl, hrd3, hg3⟩
                   have hc3 := (cell_in (HWK.out _ hg3) (by omega)).1; have hd3 : ∀ o, (w3.alloc o).cell? ⟨C, d, none⟩ = some (.slice ak lk ck) := fun o => (cell_in ((heap_alloc_old w3 o (lt_of_block (HWK.out _ hg3))).trans (HWK.out _ hg3)) (by omega)).1)
                | (refine step_appendZ rfl (.tmp 20) (.tmp 23) rfl (w.heap.size + 1) ak lk ck (cellsZ zk) rfl (HWO.out _ _ hg3) (some ⟨w3.heap.size, 0, none⟩) 1 1 (cellsZ [(m2 : Int)]) rfl (RowN.of_block (heap_alloc_new _ _) rfl rfl) (fun h => by cases h) (cellsZ_one _) (by omega) (by rw [World.size_alloc]; have := hg3.size; have e : wr.drew.heap.size = wr.heap.size := rfl; omega) (lk + 1) rfl ?_
                   intro ao3 cap3 w4 hown4 hg4 hat4
                   have h4 := (hg4.block C (by rw [World.size_alloc]; have := lt_of_block (HWK.out _ hg3); omega) (fun e => by have := (HAI.out.lt C e.symm).1; omega)).trans ((heap_alloc_old w3 _ (lt_of_block (HWK.out _ hg3))).trans (HWK.out _ hg3))
                   have hc4 := (cell_in h4 (by omega)).1; have hf4 := (cell_in h4 (by omega)).2; have H4 := Lib.hid h4; clear h4))
              all_goals
                go_wp2_with fail
                go_roundw
                case rel =>
                  have hs3 : wr.heap.size ≤ w3.heap.size := hg3.size
                  have hs4 := hg4.size
                  rw [World.size_alloc] at hs4
                  have hkp : ∀ g, w.heap.size ≤ g → g < wr.heap.size → Value.ownBlock (.slice ak lk ck) ≠ some g → (w4.setCell ⟨C, d, none⟩ (.slice ao3 (lk + 1) cap3)).heap[g]? = wr.heap[g]? := fun g hg hl hn =>
                    (Below.heap_setCell w4 _ _ g (by simp; omega)).trans ((hg4.block g (by rw [World.size_alloc]; omega) (fun e => hn e.symm)).trans ((heap_alloc_old w3 _ (by omega)).trans (hg3.block g hl (fun e => by injection e; omega))))
                  refine ⟨lk + 1, ⟨ao3, lk + 1, cap3, zk ++ [(m2 : Int)]⟩, r2, by go_num, by omega, rfl, HG2.out, ?_, ?_, ?_, ?_, ?_, ?_, ?_, ?_, ?_⟩
                  · exact ((((HTI.out.trans (Touch.of_grown (grown_undrew hg3) (by simp))).trans (Touch.alloc _ _ _)).grown hg4 (fun g hg => by have := (HAI.out.lt g hg).1; omega))).trans (Touch.set _ _ _ _ (by simp))
                  · simp [World.setCell]; omega
                  · have hr4 := Rd.high (hrd3.below ((Below.refl _ _).alloc (Nat.le_refl _) (.cells #[.int .i64 (m2 : Int)] 3))) (fun j hj hjl => hg4.block j hjl (fun e => by have := (HAI.out.lt j e.symm).1; omega))
                    refine hr4.touch (S := [C]) (Touch.set _ _ _ _ (by simp)) (by simpa using hRC) (fun q hq o n hh => ?_)
                    rw [List.mem_singleton] at hq
                    subst hq
                    simp only [World.cell?, H4.out] at hh
                    exact no8 HCS.out (by omega) o n hh
                  · show _ = _
                    rw [set_block H4.out, set_set]
                  · exact (hkp _ (Nat.le_refl _) (lt_of_block HPi.out) (fun e => by have := (HAI.out.lt _ e).1; omega)).trans HPi.out
                  · exact own_keep HVI.out fun g hg hl => hkp g (by have := (HVI.out.lt g hg).1; omega) hl (fun e => (HAP.out g e).1 hg)
                  · exact own_keep HLI.out fun g hg hl => hkp g (by have := (HLI.out.lt g hg).1; omega) hl (fun e => (HAP.out g e).2 hg)
                  · have ho : OwnZ w4 (w.heap.size + 1) ⟨ao3, lk + 1, cap3, zk ++ [(m2 : Int)]⟩ := by
                      unfold OwnZ
                      simp only [cellsZ, List.map_append] at hown4 ⊢
                      exact hown4
                    exact own_keep ho fun g hg hl => Below.heap_setCell w4 _ _ g (by have := (ho.lt g hg).1; simp; omega)
                  · intro g hg
                    rcases hat4 with h4 | h4
                    · exact HAP.out g (h4.symm.trans hg)
                    · have hgz : g = w3.heap.size + 1 := by
                        rw [World.size_alloc] at h4
                        have h5 := h4.symm.trans hg
                        injection h5 with h5
                        exact h5.symm
                      exact ⟨fun e => by have := (HVI.out.lt g e).2; omega, fun e => by have := (HLI.out.lt g e).2; omega⟩
                case measure => simp [intOf]; omega
          · have hke : lk = m := by omega
            subst hke
            have hgr : readGrp rest = some (zk, rk) := by
              rw [readGrp, HCC.out]
              show readNs ((lk : Int).toNat) r0 [] = _
              rw [Int.toNat_natCast, ← HG.out, Nat.sub_self, readNs]
            have HGR := Lib.hid hgr
            clear hgr
            go_wp2_with fail
            go_roundw
            case rel =>
              have h01 : d = 0 ∨ d = 1 := by omega
              rcases h01 with rfl | rfl
              · have hn := HNIL.out.2 rfl
                have hl := HNIL.out.1 (by omega)
                refine ⟨1, ⟨ak, lk, ck, zk⟩, ls, rk, by go_num, by omega, ?_, HTI.out, hzi, HRI.out, ?_, HPi, HAI.out, HLI.out, hm7, hl7, ⟨fun _ => hl, fun h => by cases h⟩⟩
                · show _ = _
                  rw [← HST.out]
                  exact (readStage_zero HGR.out).symm
                · have h1 := HCi.out
                  rw [HCS.out] at h1
                  exact h1
              · refine ⟨2, vs, ⟨ak, lk, ck, zk⟩, rk, by go_num, by omega, ?_, HTI.out, hzi, HRI.out, ?_, HPi, HVI.out, HAI.out, hv7, hm7, ⟨fun h => by omega, fun h => by cases h⟩⟩
                · show _ = _
                  rw [← HST.out]
                  exact (readStage_one HGR.out).symm
                · have h1 := HCi.out
                  rw [HCS.out] at h1
                  exact h1
            case measure => simp [intOf]; omega
    · obtain rfl : d = 2 := by omega
      obtain ⟨x0, x1, _, _⟩ := two_cells HCr.out
      have hfin : readFin vs.zs ls.zs rest = readConf bs := HST.out
      have hrt := confRight_any ⟨vs, ls⟩ wr (Cf.ok_of_own HVO.out HLO.out) ⟨by simp only; omega, by simp only; omega⟩
      simp only at hrt
      obtain ⟨b, hb⟩ : ∃ b, b = confRight vs.zs ls.zs := ⟨_, rfl⟩
      rw [← hb] at hrt
      rw [readFin, ← hb] at hfin
      have HF := Lib.hid hfin
      have HRT := Lib.hid hrt
      clear hb hfin hrt
      go_wp2_with fail
      refine HRT.out.mono ?_
      rintro e w2 ⟨rfl, hb2⟩
      cases b with
      | true =>
        go_wp2_with fail
        go_end0
        have hz2 := hb2.size
        refine ⟨HT.out.trans (Touch.of_below hb2), fun v l r hres => ?_, fun h => ?_⟩
        · have h1 := HF.out
          rw [if_pos trivial, hres] at h1
          injection h1 with h1
          injection h1 with h1 h2
          injection h1 with h1 h3
          subst h1 h2 h3
          exact ⟨rfl, HRD.out.below hb2, ⟨vs, ls⟩, rfl, (hb2.block C (by omega)).trans HCr.out, own_more (own_keep HVO.out fun g _ hl => hb2.block g hl) (by omega), own_more (own_keep HLO.out fun g _ hl => hb2.block g hl) (by omega)⟩
        · have h1 := HF.out
          rw [if_pos trivial, h] at h1
          cases h1
      | false =>
        go_wp2_with fail
        refine (fail_any R 30 _).mono ?_
        rintro e w3 ⟨rfl, rfl⟩
        simp only [Wrong]
        go_wp2
        refine ⟨rfl, ?_⟩
        exact LdPost.mk_no (HT.out.trans (Touch.of_below hb2)) rfl (by have h1 := HF.out; rw [if_neg (by simp)] at h1; exact h1.symm)
end Go.Proofs.Ytcejamblndilbaa
