/- The document's Load of a configuration. -/
import Derived.Test.YtpaommkjafdghaaRall
import Derived.Deep.RegionHeld3
namespace Go.Proofs.Ytpaommkjafdghaa
open Go.RowKit

/-- where a configuration's rows lie -/
def CfP (P : Nat → Prop) (c : Cf) : Prop := (∀ b off, c.v.a = some ⟨b, off, none⟩ → 0 < c.v.len → P b) ∧ (∀ b off, c.l.a = some ⟨b, off, none⟩ → 0 < c.l.len → P b)
def RLoad (w : World) (bs : List UInt8) (e : Ending) (w' : World) : Prop :=
  ∃ c : Cf, e = .returned (.tuple #[.agg #[.slice c.v.a c.v.len c.v.cap, .slice c.l.a c.l.len c.l.cap], .bool (loadOf bs).isSome]) ∧ ((loadOf bs).isSome = true → c.says = (loadOf bs).getD ([], [])) ∧ c.ok w' ∧ CfP (fun b => w.heap.size ≤ b) c ∧ Below w.heap.size w w'
theorem rload_nil {w w' : World} {bs : List UInt8} (h : loadOf bs = none) (hb : Below w.heap.size w w') : RLoad w bs (.returned (.tuple #[.agg #[.slice none 0 0, .slice none 0 0], .bool false])) w' := by
  refine ⟨⟨⟨none, 0, 0, []⟩, ⟨none, 0, 0, []⟩⟩, ?_, (fun h2 => ?_), ⟨⟨RowN.nil _ _ _, fun _ => ⟨rfl, rfl⟩⟩, ⟨RowN.nil _ _ _, fun _ => ⟨rfl, rfl⟩⟩⟩, ⟨fun b off e => (by cases e), fun b off e => (by cases e)⟩, hb⟩
  · rw [h]; rfl
  · rw [h] at h2; cases h2
theorem row_if {w : World} {ab : Option Addr} {nb cb cnt : Nat} {r : List UInt8} (h : Row8 w (Option.map (fun x => x.add cnt) ab) (nb - cnt) r) (hle : nb ≤ cb) : Row8 w (if cb = cnt then ab else Option.map (fun x => x.add cnt) ab) (nb - cnt) r := by
  split
  · have h0 : nb - cnt = 0 := by omega
    have h1 := h.1
    rw [h0] at h1 ⊢
    rw [List.eq_nil_of_length_eq_zero h1]
    exact Row8.nil _ _
  · exact h
/-- a part of a row of numbers -/
theorem RowN.subZ {w : World} {b off n d k : Nat} {zs : List Int} (h : RowN w (some ⟨b, off, none⟩) 1 n (cellsZ zs)) (hk : d + k ≤ n) : RowN w (some ⟨b, off + d, none⟩) 1 k (cellsZ ((zs.drop d).take k)) := by
  have hl : zs.length = n := by have := h.1; rw [cellsZ_len] at this; omega
  refine ⟨by rw [cellsZ_len, List.length_take, List.length_drop]; omega, fun hn => ?_⟩
  obtain ⟨b', off', e, hc⟩ := h.2 (by omega)
  injection e with e
  injection e with e1 e2 _
  subst e1 e2
  refine ⟨b, off + d, rfl, fun j u hu => ?_⟩
  have hu2 : (cellsZ zs)[d + j]? = some u := by
    unfold cellsZ at hu ⊢
    rw [List.getElem?_map, List.getElem?_take] at hu
    split at hu
    · rw [List.getElem?_drop] at hu
      rw [List.getElem?_map]
      exact hu
    · simp at hu
  have := hc _ u hu2
  rw [show off + d + j = off + (d + j) by omega]
  exact this

set_option maxRecDepth 100000 in
set_option maxHeartbeats 6400000 in
theorem rload_any (a : Option Addr) (len cap : Nat) (bs : List UInt8) (w : World) (hr : Row8 w a len bs) (hlc : len ≤ cap) (hcm : cap ≤ maxLen) (hn : len ≤ 1000000000) :
    Calls Try.prog 49 #[.slice a len cap] w (RLoad w bs) := by
  simp only [maxLen] at hcm
  obtain ⟨X, hX⟩ : ∃ X, X = w.alloc (.cells #[.slice none 0 0, .slice none 0 0] 27) := ⟨_, rfl⟩
  have hXb : Below w.heap.size w X := hX ▸ below_alloc (Below.refl _ _) _
  have hXs : X.heap.size = w.heap.size + 1 := by rw [hX, World.size_alloc]
  have hXc : X.heap[w.heap.size]? = some (.cells #[.slice none 0 0, .slice none 0 0] 27 (0, 0)) := hX ▸ heap_alloc_new w _
  have h0 := World.ownsRow_lit (base := X.heap.size) (e := 3) (size := 1) X #[] 0 (by omega) (by omega) rfl
  have hlo := loadOf_all bs
  have HLO := Lib.hid hlo
  have HXB := Lib.hid hXb
  have HXS := Lib.hid hXs
  have HXC := Lib.hid hXc
  have HX := Lib.hid hX
  have H0 := Lib.hid h0
  have HR := Lib.hid (hr.below hXb)
  have HBL := Lib.hid hr.1
  clear hr hX hXb hXs hXc h0 hlo
  go_enter Try.func49, Try.ntmps49
  go_wp2_with fail
  rw [← HX.out]
  go_loopw [4, 5] (fun v4 v5 wr => ∃ (d m cq nb cb : Nat) (zs : List Int) (ao ab : Option Addr), v4 = .slice ao m cq ∧ v5 = .slice ab nb cb ∧ Hid (nb = len - d) ∧ d ≤ len ∧ m ≤ d ∧ Hid (Row8 X ab nb (bs.drop d)) ∧ nb ≤ cb ∧ cb ≤ 9223372036854775807 ∧ Hid (zs.length = m) ∧ Hid (wr.ownsRow X.heap.size 3 1 (.slice ao m cq) m (cellsZ zs)) ∧ Hid (ao ≠ none) ∧ Hid (allN bs = (allN (bs.drop d)).map (zs ++ ·)) ∧ Hid (Below X.heap.size X wr)) (fun _ v5 _ => match v5 with | .slice _ n _ => n | _ => 0)
  case atStart =>
    refine ⟨0, 0, 0, len, cap, [], some ⟨X.heap.size, 0, none⟩, a, by rw [HXS.out], rfl, Lib.hid (by omega), by omega, by omega, HR.out, hlc, hcm, rfl, H0.out, (fun h => by cases h), ?_, below_alloc (Below.refl _ _) _⟩
    show _ = _
    rw [List.drop_zero]
    cases allN bs <;> simp
  case round =>
    obtain ⟨d, m, cq, nb, cb, zs, ao, ab, rfl, rfl, HNB, hd, hmd, HROW, hnc, hcb, HZL, HO, HNN, HA, HB⟩ := hrel
    have hnbl : nb ≤ 1000000000 := by have := HNB.out; omega
    by_cases hpos : 0 < nb
    · have hpos' : (0 : Int) < (nb : Int) := by omega
      have hget := refGetNum_any ab nb cb (bs.drop d) wr (HROW.out.below HB.out) (by simp only [maxLen]; omega)
      have hne : bs.drop d ≠ [] := fun e => by
        have := HROW.out.1
        rw [e] at this
        simp at this
        omega
      have hstep := allN_step hne
      cases hg : getCount 7 (bs.drop d) with
      | none =>
        have hno := getCount_none hg
        rw [hg] at hstep
        have hl : loadOf bs = none := by
          rw [HLO.out, HA.out, hstep]
          rfl
        obtain ⟨⟨nn, kk⟩, hnk⟩ : ∃ p, p = numK (bs.drop d) := ⟨_, rfl⟩
        rw [← hnk] at hget hno
        simp only at hget hno
        have HGET := Lib.hid hget
        have HL := Lib.hid hl
        have hC := HB.out.block w.heap.size (by rw [HXS.out]; omega)
        have hC2 := hC.trans HXC.out
        obtain ⟨x0, x1, y0, y1⟩ := two_cells hC2
        have HC := Lib.hid hC2
        clear hget hstep hl hnk hg hne hC hC2
        by_cases h1 : kk = 0
        · subst h1
          clear hno
          go_wp2_with fail
          refine HGET.out.mono ?_
          rintro e w2 ⟨rfl, rfl⟩
          go_wp2_with fail
          exact bodyPost_ret (results_cell_tmp Try.results49 rfl (load_conf (set_block (i := 1) (set_block (i := 0) HC.out _) _))) rfl (rload_nil HL.out (below_set (below_set (HXB.out.trans (HB.out.mono (by rw [HXS.out]; omega))) _ (Nat.le_refl _)) _ (Nat.le_refl _)))
        · have h1' : ((kk : Int) == 0) = false := by simp; omega
          by_cases h2 : nn < 0
          · clear hno
            go_wp2_with fail
            refine HGET.out.mono ?_
            rintro e w2 ⟨rfl, rfl⟩
            go_wp2_with fail
            exact bodyPost_ret (results_cell_tmp Try.results49 rfl (load_conf (set_block (i := 1) (set_block (i := 0) HC.out _) _))) rfl (rload_nil HL.out (below_set (below_set (HXB.out.trans (HB.out.mono (by rw [HXS.out]; omega))) _ (Nat.le_refl _)) _ (Nat.le_refl _)))
          · have h3 : 7 < nn := by omega
            clear hno
            go_wp2_with fail
            refine HGET.out.mono ?_
            rintro e w2 ⟨rfl, rfl⟩
            go_wp2_with fail
            exact bodyPost_ret (results_cell_tmp Try.results49 rfl (load_conf (set_block (i := 1) (set_block (i := 0) HC.out _) _))) rfl (rload_nil HL.out (below_set (below_set (HXB.out.trans (HB.out.mono (by rw [HXS.out]; omega))) _ (Nat.le_refl _)) _ (Nat.le_refl _)))
      | some p =>
        obtain ⟨v, r⟩ := p
        obtain ⟨hnk, K, hK1, hK2, hK3⟩ := getCount_suf hg
        have hv7 := getCount_range hg
        have hrl := HROW.out.1
        have hKl : (bs.drop d).length - r.length = K := by
          have : r.length = (bs.drop d).length - K := by rw [hK3, List.length_drop]
          omega
        rw [hKl] at hnk
        rw [hnk] at hget
        rw [hg] at hstep
        simp only at hstep hget
        rw [hrl] at hK2
        have hA2 : allN bs = (allN (bs.drop (d + K))).map ((zs ++ [v]) ++ ·) := by
          rw [HA.out, hstep, hK3, List.drop_drop]
          cases allN (bs.drop (d + K)) <;> simp
        have hrow2 := row_if ((HROW.out.drop K hK2)) hnc
        rw [List.drop_drop] at hrow2
        have hKi : ((K : Int) == 0) = false := by simp; omega
        have hKn : (K : Int) ≤ (nb : Int) := by omega
        have hKc : (K : Int) ≤ (cb : Int) := by omega
        have hK0 : (0 : Int) ≤ (K : Int) := by omega
        have hv1 : ¬ v < 0 := by omega
        have hv2 : ¬ 7 < v := by omega
        have hwv : IntKind.i64.wrap v = v := by rw [IntKind.wrap_i64] <;> omega
        have HGET := Lib.hid hget
        have HA2 := Lib.hid hA2
        have HROW2 := Lib.hid hrow2
        have HHK1 := Lib.hid hK1
        clear hget hstep hA2 hrow2 hnk hK3 hKl hg hne hv7 hrl hK1
        go_wp2_with fail
        refine HGET.out.mono ?_
        rintro e w2 ⟨rfl, rfl⟩
        go_wp2_with (at_builtin; refine wpList_appendZ rfl (.tmp 30) (.tmp 32) rfl X.heap.size ao m cq (cellsZ zs) rfl (own_keep HO.out fun g _ hl => alloc_far rfl hl) (some ⟨wr.heap.size, 0, none⟩) 1 1 (cellsZ [v]) rfl (RowN.newH _ _ _ 1 1 _ _ rfl rfl rfl) (fun h => by cases h) (cellsZ_one _) (by omega) (by rw [World.size_alloc]; have := HB.out.size; omega) (m + 1) rfl ?_; intro ao3 cap3 w3 hown3 hg3 hat3)
        have hne3 : ao3 ≠ none := by
          rcases hown3.2 with ⟨_, h0⟩ | ⟨g, cp, cur, hv, _⟩
          · omega
          · injection hv with hv
            rw [hv]
            simp
        go_roundw
        case rel =>
          have h1 := HHK1.out
          refine ⟨d + K, m + 1, cap3, nb - K, cb - K, zs ++ [v], ao3, _, rfl, rfl, Lib.hid (by have := HNB.out; omega), by have := HNB.out; omega, by omega, HROW2.out, by omega, by omega, Lib.hid (by rw [List.length_append, HZL.out]; rfl), ?_, hne3, HA2.out, (below_alloc HB.out _).grown hg3 (by rw [World.size_alloc]; have := HB.out.size; omega) (fun g hg => (HO.out.lt g hg).1)⟩
          show World.ownsRow _ _ _ _ _ _ _
          have e : cellsZ (zs ++ [v]) = cellsZ zs ++ cellsZ [v] := by unfold cellsZ; rw [List.map_append]
          rw [e]
          exact hown3
        case measure => have h1 := HHK1.out; show nb - K < nb; omega
    · have hnb0 : nb = 0 := by omega
      have hnil : bs.drop d = [] := List.eq_nil_of_length_eq_zero (by have := HROW.out.1; omega)
      have hall : allN bs = some zs := by
        rw [HA.out, hnil, allN_nil]
        simp
      have hlo := HLO.out
      rw [hall] at hlo
      simp only at hlo
      have hrg := allN_range _ _ _ hall
      have hC2 := (HB.out.block w.heap.size (by rw [HXS.out]; omega)).trans HXC.out
      obtain ⟨x0, x1, y0, y1⟩ := two_cells hC2
      obtain ⟨wo, rfl⟩ : ∃ wo, wo = wr := ⟨_, rfl⟩
      have HC := Lib.hid hC2
      have HZ := Lib.hid hrg
      have hbw := HXB.out.trans (HB.out.mono (by rw [HXS.out]; omega))
      have HBW := Lib.hid hbw
      have hml := HZL.out
      clear hnil hall hrg hC2 HLO HA HROW hbw
      have hmm : m ≤ 1000000000 := by omega
      have hfin : loadOf bs = none → ∀ q, RLoad w bs (.returned (.tuple #[.agg #[.slice none 0 0, .slice none 0 0], .bool false])) ((((wo.drewN q).setCell ⟨w.heap.size, 0, none⟩ (.slice none 0 0)).setCell ⟨w.heap.size, 1, none⟩ (.slice none 0 0))) := fun h q =>
        rload_nil h (below_set (below_set (below_drewN HBW.out _) _ (Nat.le_refl _)) _ (Nat.le_refl _))
      have HFIN := Lib.hid hfin
      clear hfin
      by_cases hm2 : m < 2
      · have hl : loadOf bs = none := by rw [hlo, splitC, if_pos (.inl (by omega))]
        have hm2' : (m : Int) < 2 := by omega
        have d1 : decide ((m : Int) < 2) = true := decide_eq_true hm2'
        have HL := Lib.hid hl
        clear hlo hl
        go_wp2_with fail
        go_quiet (fail)
        go_wp2_with fail
        exact bodyPost_ret (results_cell_tmp Try.results49 rfl (load_conf (set_block (i := 1) (set_block (i := 0) (show (wo.drewN nq).heap[w.heap.size]? = _ from HC.out) _) _))) rfl (HFIN.out HL.out nq)
      · obtain ⟨g, off, z0, rfl, hz0, hc0⟩ := cellZ_at (RowN.of_own HO.out) 0 (by omega)
        have hr0 := HZ.out z0 (List.mem_of_getElem? hz0)
        obtain ⟨k0, rfl⟩ : ∃ k0 : Nat, z0 = (k0 : Int) := ⟨z0.toNat, by omega⟩
        have hg0 : zs.getD 0 0 = (k0 : Int) := by rw [List.getD_eq_getElem?_getD, hz0]; rfl
        rw [splitC, hg0] at hlo
        rw [Nat.add_zero] at hc0
        have hm2' : ¬ (m : Int) < 2 := by omega
        have d1 : decide ((m : Int) < 2) = false := decide_eq_false hm2'
        have hw2 : IntKind.i64.wrap ((k0 : Int) + 2) = (k0 : Int) + 2 := by rw [IntKind.wrap_i64] <;> omega
        have hm0 : (0 : Int) < (m : Int) := by omega
        have hk7 : k0 ≤ 7 := by omega
        clear hz0 hr0 hg0
        by_cases hB : (m : Int) < (k0 : Int) + 2
        · have hl : loadOf bs = none := by rw [hlo, if_pos (.inr (.inl (by omega)))]
          have d2 : decide ((m : Int) < (k0 : Int) + 2) = true := decide_eq_true hB
          have HL := Lib.hid hl
          clear hlo hl
          go_wp2_with fail
          go_quiet (fail)
          go_wp2_with fail
          exact bodyPost_ret (results_cell_tmp Try.results49 rfl (load_conf (set_block (i := 1) (set_block (i := 0) (show (wo.drewN nq).heap[w.heap.size]? = _ from HC.out) _) _))) rfl (HFIN.out HL.out nq)
        · obtain ⟨g', off', z1, he, hz1, hc1⟩ := cellZ_at (RowN.of_own HO.out) (k0 + 1) (by omega)
          injection he with he
          injection he with he1 he2 _
          subst he1 he2
          have hr1 := HZ.out z1 (List.mem_of_getElem? hz1)
          have hn1 : ((k0 : Int) + 1).toNat = k0 + 1 := by omega
          have hn2 : ((k0 : Int)).toNat = k0 := by omega
          have hg1 : zs.getD (k0 + 1) 0 = z1 := by rw [List.getD_eq_getElem?_getD, hz1]; rfl
          rw [hn1, hg1, hn2] at hlo
          have d2 : decide ((m : Int) < (k0 : Int) + 2) = false := decide_eq_false hB
          have hw1 : IntKind.i64.wrap ((k0 : Int) + 1) = (k0 : Int) + 1 := by rw [IntKind.wrap_i64] <;> omega
          have hw3 : IntKind.i64.wrap ((k0 : Int) + 2 + z1) = (k0 : Int) + 2 + z1 := by rw [IntKind.wrap_i64] <;> omega
          have hk1m : (k0 : Int) + 1 < (m : Int) := by omega
          have hk10 : (0 : Int) ≤ (k0 : Int) + 1 := by omega
          clear hz1 hr1 hg1
          by_cases hC : (m : Int) = (k0 : Int) + 2 + z1
          · have d3 : ((m : Int) != (k0 : Int) + 2 + z1) = false := by rw [hC]; simp
            rw [if_neg (by rw [hml]; intro h; rcases h with h | h | h <;> omega)] at hlo
            simp only at hlo
            have HLO2 := Lib.hid hlo
            clear hlo hC
            go_wp2_with fail
            go_quiet (fail)
            go_wp2_with fail
            have hcap := own_cap HO.out
            have hq1 : ¬ cq = 1 := by omega
            have hs1 : (k0 : Int) + 1 ≤ (cq : Int) := by omega
            have hs2 : (1 : Int) ≤ (k0 : Int) + 1 := by omega
            have hs3 : (k0 : Int) + 2 ≤ (m : Int) := by omega
            have hs4 : (m : Int) ≤ (cq : Int) := by omega
            have hs5 : (0 : Int) ≤ (k0 : Int) + 2 := by omega
            have hn3 : ((k0 : Int) + 2).toNat = k0 + 2 := by omega
            have hm0n : 0 < m := by omega
            have hc0q : ∀ q o, ((wo.drewN q).alloc o).cell? ⟨g, off, none⟩ = some (.int .i64 (k0 : Int)) := fun q o => by
              have h1 : (wo.drewN q).cell? ⟨g, off, none⟩ = some (.int .i64 (k0 : Int)) := hc0
              rw [World.cell?_alloc_lt _ _ _ (World.block_lt_of_cell? _ _ h1)]
              exact h1
            have hz1 : ∀ q, ((wo.drewN q).alloc (.cells #[.slice none 0 0, .slice none 0 0] 27)).cell? ⟨wo.heap.size, 0, none⟩ = some (.slice none 0 0) := fun q => (two_cells (heap_alloc_new (wo.drewN q) _)).1
            have hz2 : ∀ q, ((wo.drewN q).alloc (.cells #[.slice none 0 0, .slice none 0 0] 27)).cell? ⟨wo.heap.size, 1, none⟩ = some (.slice none 0 0) := fun q => (two_cells (heap_alloc_new (wo.drewN q) _)).2.1
            have hz3 : ∀ q, ((wo.drewN q).alloc (.cells #[.slice none 0 0, .slice none 0 0] 27)).frozen? ⟨wo.heap.size, 0, none⟩ = false := fun q => (two_cells (heap_alloc_new (wo.drewN q) _)).2.2.1
            have hz4 : ∀ q, ((wo.drewN q).alloc (.cells #[.slice none 0 0, .slice none 0 0] 27)).frozen? ⟨wo.heap.size, 1, none⟩ = false := fun q => (two_cells (heap_alloc_new (wo.drewN q) _)).2.2.2
            clear hcap
            have hg1 := (HO.out.lt g rfl).1
            have hgl := (HO.out.lt g rfl).2
            go_region
            obtain ⟨al, hal⟩ : ∃ al, al = (if cq = k0 + 2 then some (⟨g, off, none⟩ : Addr) else some ⟨g, off + (k0 + 2), none⟩) := ⟨_, rfl⟩
            rw [← hal]
            obtain ⟨Z, hZ⟩ : ∃ Z, Z = (((wo.drewN (nq + 1)).alloc (.cells #[.slice none 0 0, .slice none 0 0] 27)).setCell ⟨wo.heap.size, 0, none⟩ (.slice (some ⟨g, off + 1, none⟩) k0 (cq - 1))).setCell ⟨wo.heap.size, 1, none⟩ (.slice al (m - (k0 + 2)) (cq - (k0 + 2))) := ⟨_, rfl⟩
            have hbZ : Below wo.heap.size wo Z := hZ ▸ below_set (below_set (below_alloc (below_drewN (Below.refl _ _) _) _) _ (Nat.le_refl _)) _ (Nat.le_refl _)
            have hZc : Z.heap[wo.heap.size]? = some (.cells #[.slice (some ⟨g, off + 1, none⟩) k0 (cq - 1), .slice al (m - (k0 + 2)) (cq - (k0 + 2))] 27 (0, 0)) := hZ ▸ set_block (i := 1) (set_block (i := 0) (heap_alloc_new (wo.drewN (nq + 1)) _) _) _
            have hwz : w.heap.size < wo.heap.size := by have := HB.out.size; have := HXS.out; omega
            have hZC := (hbZ.block w.heap.size hwz).trans HC.out
            have hrowZ := (RowN.of_own HO.out).below hbZ
            have hck : Cf.ok Z ⟨⟨some ⟨g, off + 1, none⟩, k0, cq - 1, (zs.drop 1).take k0⟩, ⟨al, m - (k0 + 2), cq - (k0 + 2), zs.drop (k0 + 2)⟩⟩ := by
              refine ⟨⟨hrowZ.subZ (d := 1) (k := k0) (by omega), fun h => by cases h⟩, ⟨?_, fun h => ?_⟩⟩
              · rw [hal]
                split
                · have e : m - (k0 + 2) = 0 := by omega
                  simp only
                  rw [e, List.drop_of_length_le (by omega)]
                  exact RowN.nil _ _ _
                · have h1 := hrowZ.subZ (d := k0 + 2) (k := m - (k0 + 2)) (by omega)
                  rw [List.take_of_length_le (by rw [List.length_drop]; omega)] at h1
                  exact h1
              · simp only at h
                rw [hal] at h
                split at h <;> cases h
            have hag : ∀ b o, al = some ⟨b, o, none⟩ → b = g := fun b o e => by
              rw [hal] at e
              split at e
              · injection e with e
                injection e with e1 _ _
                exact e1.symm
              · injection e with e
                injection e with e1 _ _
                exact e1.symm
            have HAG := Lib.hid hag
            have hgw1 : w.heap.size < g := by have := HXS.out; omega
            have hP : CfP (fun b => w.heap.size ≤ b) ⟨⟨some ⟨g, off + 1, none⟩, k0, cq - 1, (zs.drop 1).take k0⟩, ⟨al, m - (k0 + 2), cq - (k0 + 2), zs.drop (k0 + 2)⟩⟩ := by
              have hgw : w.heap.size ≤ g := by have := HXS.out; omega
              refine ⟨fun b o e _ => ?_, fun b o e _ => ?_⟩
              · simp only at e
                injection e with e
                injection e with e1 _ _
                omega
              · simp only at e
                rw [hal] at e
                split at e
                · injection e with e
                  injection e with e1 _ _
                  omega
                · injection e with e
                  injection e with e1 _ _
                  omega
            have hri := fun V (hV : Below Z.heap.size Z V) => rright15_any ⟨⟨some ⟨g, off + 1, none⟩, k0, cq - 1, (zs.drop 1).take k0⟩, ⟨al, m - (k0 + 2), cq - (k0 + 2), zs.drop (k0 + 2)⟩⟩ V (hck.below hV) (show k0 ≤ 1000000000000 ∧ m - (k0 + 2) ≤ 1000000000000 by omega)
            simp only at hri
            obtain ⟨bo, hbo⟩ : ∃ bo, bo = confRight ((zs.drop 1).take k0) (zs.drop (k0 + 2)) := ⟨_, rfl⟩
            rw [← hbo] at hri
            obtain ⟨x0', x1', y0', y1'⟩ := two_cells hZC
            obtain ⟨z0, z1, _, _⟩ := two_cells hZc
            rw [← hZ]
            have HRI := Lib.hid hri
            have HCK := Lib.hid hck
            have HP := Lib.hid hP
            have HBO := Lib.hid hbo
            have HZC := Lib.hid hZC
            have HZK := Lib.hid hZc
            have HBZ := Lib.hid hbZ
            clear hag hri hck hP hbo hZC hZc hbZ hz1 hz2 hz3 hz4 hc0q hZ hal hrowZ x0 x1 y0 y1
            have e1 : wo.heap.size ≠ w.heap.size := by omega
            have e2 : w.heap.size ≠ wo.heap.size := by omega
            have HX2 : Hid (∀ V, Below Z.heap.size Z V → V.heap[w.heap.size]? = some (.cells #[.slice none 0 0, .slice none 0 0] 27 (0, 0)) ∧ V.heap[wo.heap.size]? = some (.cells #[.slice (some ⟨g, off + 1, none⟩) k0 (cq - 1), .slice al (m - (k0 + 2)) (cq - (k0 + 2))] 27 (0, 0))) := Lib.hid fun V hV => ⟨(hV.block _ (lt_of_block HZC.out)).trans HZC.out, (hV.block _ (lt_of_block HZK.out)).trans HZK.out⟩
            go_wp2_with fail
            go_region_law (first
              | (go_simp; go_at_call 57; refine (HRI.out _ (Below.refl _ _).drew).mono ?_; rintro e w3 ⟨rfl, hb3⟩
                 have hb3' : Below Z.heap.size Z w3 := below_then (Below.refl _ _).drew hb3
                 obtain ⟨hq1, hq2⟩ := HX2.out _ hb3'
                 obtain ⟨q0, q1, r0, r1⟩ := two_cells hq1
                 obtain ⟨q2, q3, _, _⟩ := two_cells hq2))
            all_goals
              have hbv := below_then HBZ.out hb3'
              have HCV := Lib.hid (HCK.out.below hb3')
              have HBV := Lib.hid (below_then HBW.out hbv)
              have HQ1 := Lib.hid hq1
              clear hb3 hb3' hbv hq1 hq2
              go_wp2_with fail
              refine bodyPost_ret (results_cell_tmp Try.results49 rfl (load_conf (set_block (i := 1) (set_block (i := 0) HQ1.out _) _))) rfl ?_
              have hlo := HLO2.out
              rw [← HBO.out] at hlo
              refine ⟨⟨⟨some ⟨g, off + 1, none⟩, k0, cq - 1, (zs.drop 1).take k0⟩, ⟨al, m - (k0 + 2), cq - (k0 + 2), zs.drop (k0 + 2)⟩⟩, ?_, fun hs => ?_, ?_, HP.out, below_set (below_set HBV.out _ (Nat.le_refl _)) _ (Nat.le_refl _)⟩
              · rw [hlo]
                cases bo <;> rfl
              · rw [hlo] at hs ⊢
                cases bo
                · cases hs
                · rfl
              · have ht : Touch [w.heap.size] w3 ((w3.setCell ⟨w.heap.size, 0, none⟩ (.slice (some ⟨g, off + 1, none⟩) k0 (cq - 1))).setCell ⟨w.heap.size, 1, none⟩ (.slice al (m - (k0 + 2)) (cq - (k0 + 2)))) := touch_set (touch_set (Touch.refl _ _) _ _ _ (by simp)) _ _ _ (by simp)
                refine ⟨⟨HCV.out.1.1.touch ht (fun b o e _ => ?_), HCV.out.1.2⟩, ⟨HCV.out.2.1.touch ht (fun b o e _ => ?_), HCV.out.2.2⟩⟩
                · injection e with e
                  injection e with e1 _ _
                  simp
                  omega
                · have := HAG.out b o e
                  simp
                  omega
          · have hl : loadOf bs = none := by rw [hlo, if_pos (.inr (.inr (by rw [hml]; exact hC)))]
            have d3 : ((m : Int) != (k0 : Int) + 2 + z1) = true := by simp [hC]
            have HL := Lib.hid hl
            clear hlo hl hC
            go_wp2_with fail
            go_quiet (fail)
            go_wp2_with fail
            exact bodyPost_ret (results_cell_tmp Try.results49 rfl (load_conf (set_block (i := 1) (set_block (i := 0) (show (wo.drewN nq).heap[w.heap.size]? = _ from HC.out) _) _))) rfl (HFIN.out HL.out nq)
end Go.Proofs.Ytpaommkjafdghaa
