/- conf.Bytes. -/
import Derived.Test.YtcejamblndilbaaEnc1
import Derived.Test.YtcejamblndilbaaRight2
namespace Go.Proofs.Ytcejamblndilbaa
open Go.RowKit

theorem rising_facts : ∀ (zs : List Int) (p : Option Int), risingGo p zs = true → (∀ z ∈ zs, 1 ≤ z ∧ z ≤ 7 ∧ (∀ y, p = some y → y < z)) ∧ (zs.length : Int) ≤ (match p with | none => 7 | some y => if 7 < y then 0 else 7 - y)
  | [], p, _ => ⟨fun _ h => (by cases h), by cases p <;> simp <;> (try split) <;> omega⟩
  | z :: r, p, h => by
    simp only [risingGo, Bool.and_eq_true, decide_eq_true_eq] at h
    obtain ⟨⟨⟨h1, h2⟩, h3⟩, h4⟩ := h
    obtain ⟨i1, i2⟩ := rising_facts r (some z) h4
    have hp : ∀ y, p = some y → y < z := by
      intro y hy
      subst hy
      simpa using h3
    refine ⟨fun x hx => ?_, ?_⟩
    · rcases List.mem_cons.1 hx with rfl | hx
      · exact ⟨h1, h2, hp⟩
      · have h5 := i1 x hx
        exact ⟨h5.1, h5.2.1, fun y hy => by have := hp y hy; have := h5.2.2 z rfl; omega⟩
    · simp only at i2
      rw [if_neg (by omega)] at i2
      rw [List.length_cons]
      cases p with
      | none => simp only; omega
      | some y => have := hp y rfl; simp only; rw [if_neg (by omega)]; omega
theorem rising_len {zs : List Int} (h : risingB zs = true) : zs.length ≤ 7 ∧ ∀ z ∈ zs, 1 ≤ z ∧ z ≤ 7 := by
  obtain ⟨h1, h2⟩ := rising_facts zs none h
  simp only at h2
  exact ⟨by omega, fun z hz => ⟨(h1 z hz).1, (h1 z hz).2.1⟩⟩
theorem confRight_facts {v l : List Int} (h : confRight v l = true) : risingB v = true ∧ risingB l = true ∧ 0 < v.length := by
  simp only [confRight, Bool.and_eq_true, decide_eq_true_eq] at h
  exact ⟨h.1.1.1, h.1.1.2, h.1.2⟩

def grpV (zs : List Int) : List Vl := numV (zs.length : Nat) :: zs.map numV
def confVals (v l : List Int) : List Vl := grpV v ++ grpV l
/-- a configuration's bytes -/
def cBytes (v l : List Int) : List UInt8 × Nat := if confRight v l then putAll (confVals v l) [] else ([], 1)
theorem numV_ok (w : World) (n : Int) (h : -9223372036854775808 ≤ n ∧ n ≤ 9223372036854775807) : Vl.ok w (numV n) :=
  ⟨⟨⟨rfl, fun i hi => absurd hi (by simp [numV])⟩, Nat.le_refl _, by simp [numV, maxLen], fun _ => rfl⟩, by simp [numV], h, by simp [numV]⟩
theorem confVals_ok {v l : List Int} (h : confRight v l = true) (w : World) : (∀ x ∈ confVals v l, Vl.ok w x) ∧ bulkV (confVals v l) ≤ 16 := by
  obtain ⟨h1, h2, _⟩ := confRight_facts h
  have r1 := rising_len h1
  have r2 := rising_len h2
  have hg : ∀ zs : List Int, zs.length ≤ 7 ∧ (∀ z ∈ zs, 1 ≤ z ∧ z ≤ 7) → ∀ x ∈ grpV zs, Vl.ok w x := by
    intro zs hz x hx
    rcases List.mem_cons.1 hx with rfl | hx
    · exact numV_ok w _ (by omega)
    · obtain ⟨z, hz1, rfl⟩ := List.mem_map.1 hx
      exact numV_ok w _ (by have := hz.2 z hz1; omega)
  refine ⟨fun x hx => (List.mem_append.1 hx).elim (hg v r1 x) (hg l r2 x), ?_⟩
  have hb : ∀ zs : List Int, bulkV (grpV zs) = zs.length + 1 := by
    intro zs
    unfold grpV
    rw [bulkV_cons]
    have : bulkV (zs.map numV) = zs.length := by
      induction zs with
      | nil => rfl
      | cons z r ih => rw [List.map_cons, bulkV_cons, ih, List.length_cons]; simp [numV]; omega
    rw [this]; simp [numV]; omega
  have hap : ∀ a b : List Vl, bulkV (a ++ b) = bulkV a + bulkV b := by intro a b; simp [bulkV]
  rw [confVals, hap, hb, hb]
  omega

/-- the values when d groups are written -/
def grpsV (v l : List Int) (d : Nat) : List Vl := match d with
  | 0 => []
  | 1 => grpV v
  | _ => confVals v l
def pickZ (c : Cf) (d : Nat) : Is := if d = 0 then c.v else c.l
theorem grps_next (c : Cf) (d : Nat) (hd : d < 2) : grpsV c.v.zs c.l.zs (d + 1) = grpsV c.v.zs c.l.zs d ++ grpV (pickZ c d).zs := by
  match d, hd with
  | 0, _ => rfl
  | 1, _ => rfl
theorem grps_len (c : Cf) (d : Nat) (hv : c.v.zs.length ≤ 7) (hl : c.l.zs.length ≤ 7) : (grpsV c.v.zs c.l.zs d).length ≤ 16 := by
  match d with
  | 0 => simp [grpsV]
  | 1 => simp [grpsV, grpV]; omega
  | n + 2 => simp [grpsV, confVals, grpV]; omega

set_option maxRecDepth 100000 in
set_option maxHeartbeats 6400000 in
theorem cbytes_any (c : Cf) (w : World) (hc : c.ok w) (hn : c.v.len ≤ 9223372036854775807 ∧ c.l.len ≤ 9223372036854775807) :
    Calls Try.prog 31 #[.agg #[.slice c.v.a c.v.len c.v.cap, .slice c.l.a c.l.len c.l.cap]] w (RetBytesCode w (cBytes c.v.zs c.l.zs).1.length (cBytes c.v.zs c.l.zs).1 (cBytes c.v.zs c.l.zs).2) := by
  obtain ⟨X, hX⟩ : ∃ X, X = w.alloc (.cells #[.slice c.v.a c.v.len c.v.cap, .slice c.l.a c.l.len c.l.cap] 26) := ⟨_, rfl⟩
  have hXb : Below w.heap.size w X := hX ▸ below_alloc (Below.refl _ _) _
  have hXs : X.heap.size = w.heap.size + 1 := by rw [hX, World.size_alloc]
  have hA : X.heap[w.heap.size]? = some (.cells #[.slice c.v.a c.v.len c.v.cap, .slice c.l.a c.l.len c.l.cap] 26 (0, 0)) := hX ▸ heap_alloc_new w _
  have hr := confRight_any c X (hc.below hXb) hn
  have HR := Lib.hid hr
  have HXB := Lib.hid hXb
  have HA := Lib.hid hA
  have HXS := Lib.hid hXs
  have HX := Lib.hid hX
  obtain ⟨x0, x1, _, _⟩ := two_cells hA
  cases hcr : confRight c.v.zs c.l.zs with
  | false =>
    have hcb : cBytes c.v.zs c.l.zs = ([], 1) := by rw [cBytes, hcr]; rfl
    rw [hcb]
    rw [hcr] at HR
    clear hr hXb hA hXs hcr hc hX
    go_enter Try.func31, Try.ntmps31
    go_wp2_with fail
    rw [← HX.out]
    go_wp2_with fail
    refine HR.out.mono ?_
    rintro e w2 ⟨rfl, hb⟩
    go_wp2_with fail
    go_ret2
    exact ⟨none, 0, rfl, Own8.nil _ _, below_then HXB.out hb⟩
  | true =>
    have hcb : cBytes c.v.zs c.l.zs = putAll (confVals c.v.zs c.l.zs) [] := by rw [cBytes, hcr]; rfl
    obtain ⟨hok, hbulk⟩ := confVals_ok hcr w
    obtain ⟨hrv, hrl, _⟩ := confRight_facts hcr
    have hlv := (rising_len hrv).1
    have hll := (rising_len hrl).1
    rw [hcb]
    rw [hcr] at HR
    have hzv : c.v.zs.length = c.v.len := by have := hc.1.1.1; rw [cellsZ_len] at this; omega
    have hzl : c.l.zs.length = c.l.len := by have := hc.2.1.1; rw [cellsZ_len] at this; omega
    have hstf := store_float
    have hpk : ∀ d, (pickZ c d).zs.length = (pickZ c d).len ∧ (pickZ c d).len ≤ 7 := fun d => by unfold pickZ; split <;> omega
    have hpr : ∀ d Z, Below X.heap.size X Z → RowN Z (pickZ c d).a 1 (pickZ c d).len (cellsZ (pickZ c d).zs) := fun d Z hZ => by
      unfold pickZ
      split
      · exact (hc.1.1.below hXb).below hZ
      · exact (hc.2.1.below hXb).below hZ
    have hput := fun (a : Option Addr) (cap : Nat) (Z : World) hz => put_any a (confVals c.v.zs c.l.zs).length cap (confVals c.v.zs c.l.zs) Z hz rfl (fun v hv => by have := (confVals_ok hcr Z).1 v hv; exact this) (by omega)
    have hgl := fun d => grps_len c d hlv hll
    have HPUT := Lib.hid hput
    have HGL := Lib.hid hgl
    have HPK := Lib.hid hpk
    have HPR := Lib.hid hpr
    clear hr hXb hA hXs hcr hc hX hput hgl hpk hpr hok hbulk hrv hrl hlv hll hzv hzl hcb
    go_enter Try.func31, Try.ntmps31
    go_wp2_with fail
    rw [← HX.out]
    go_wp2_with fail
    refine HR.out.mono ?_
    rintro e w2 ⟨rfl, hb⟩
    obtain ⟨y0, y1, _, _⟩ := two_cells ((hb.block _ (by have := HXS.out; omega)).trans HA.out)
    go_wp2_with fail
    obtain ⟨X2, hX2⟩ : ∃ X2, X2 = w2.alloc (.cells #[.slice c.v.a c.v.len c.v.cap, .slice c.l.a c.l.len c.l.cap] 24) := ⟨_, rfl⟩
    have hb2 : Below X.heap.size X X2 := below_then hb (hX2 ▸ below_alloc (Below.refl _ _) _)
    have hD : X2.heap[w2.heap.size]? = some (.cells #[.slice c.v.a c.v.len c.v.cap, .slice c.l.a c.l.len c.l.cap] 24 (0, 0)) := hX2 ▸ heap_alloc_new w2 _
    have hds : X2.heap.size = w2.heap.size + 1 := by rw [hX2, World.size_alloc]
    have hce : ∀ Z, Below X2.heap.size X2 Z → ∀ d, d < 2 → Z.cell? ⟨w2.heap.size, d, none⟩ = some (.slice (pickZ c d).a (pickZ c d).len (pickZ c d).cap) := fun Z hZ d hd => by
      obtain ⟨z0, z1, _, _⟩ := two_cells ((hZ.block _ (by omega)).trans hD)
      match d, hd with
      | 0, _ => exact z0
      | 1, _ => exact z1
    have HCE := Lib.hid hce
    have HB2 := Lib.hid hb2
    have HX2 := Lib.hid hX2
    have hwX : w.heap.size ≤ X2.heap.size := by have := hb.size; have := HXS.out; omega
    have HWX := Lib.hid hwX
    clear hce hb2 hX2 hD hds hb y0 y1 x0 x1 HA HR hwX
    rw [← HX2.out]
    go_loopw [4, 18] (fun v4 i wr => ∃ (d : Nat) (ak : Option Addr) (ck : Nat), i = .int .i64 d ∧ d ≤ 2 ∧ v4 = .slice ak (grpsV c.v.zs c.l.zs d).length ck ∧ wr.ownsRow X2.heap.size 65 5 (.slice ak (grpsV c.v.zs c.l.zs d).length ck) (grpsV c.v.zs c.l.zs d).length ((grpsV c.v.zs c.l.zs d).flatMap Vl.cells) ∧ Hid (Below X2.heap.size X2 wr)) (fun _ i _ => 2 - (intOf i).toNat)
    case atStart => exact ⟨0, none, 0, rfl, by omega, rfl, World.ownsRow_nil _ _ _ _, Below.refl _ _⟩
    case round =>
      obtain ⟨d, ak, ck, rfl, hd, rfl, hown, HB⟩ := hrel
      obtain ⟨wo, hwo⟩ : ∃ wo, wo = wr := ⟨_, rfl⟩
      by_cases hlt : d < 2
      · have hdn : (d : Int) < 2 := by omega
        have hcell := HCE.out _ HB.out d hlt
        obtain ⟨hzs, hl7⟩ := HPK.out d
        have hgl := HGL.out d
        have hgn := grps_next c d hlt
        obtain ⟨s, hs⟩ : ∃ s, s = pickZ c d := ⟨_, rfl⟩
        have hrow := fun Z (hZ : Below X2.heap.size X2 Z) => HPR.out d Z (below_then HB2.out hZ)
        rw [← hs] at hcell hzs hl7 hgn hrow
        clear hs
        subst hwo
        obtain ⟨L, hL⟩ : ∃ L, L = (grpsV c.v.zs c.l.zs d).length := ⟨_, rfl⟩
        rw [← hL] at hown hgl ⊢
        have ho2 : ∀ o, (wo.alloc o).ownsRow X2.heap.size 65 5 (.slice ak L ck) L ((grpsV c.v.zs c.l.zs d).flatMap Vl.cells) := fun o => hown.alloc o
        have HO := Lib.hid ho2
        have hwo : X2.heap.size ≤ wo.heap.size := HB.out.size
        have HWO := Lib.hid hwo
        have HOB : Hid (∀ g, Value.ownBlock (.slice ak L ck) = some g → X2.heap.size ≤ g ∧ g < wo.heap.size) := fun g hg => hown.lt g hg
        have HROW := Lib.hid hrow
        have HZS := Lib.hid hzs
        have HGN := Lib.hid hgn
        have HLL := Lib.hid hL
        clear hown ho2 hwo hrow hzs hgn hL
        go_wp2_with (at_builtin; refine wpList_appendVal rfl (.tmp 22) (.tmp 26) rfl X2.heap.size ak L ck ((grpsV c.v.zs c.l.zs d).flatMap Vl.cells) rfl (HO.out _) (some ⟨wo.heap.size, 0, none⟩) 1 1 (Vl.cells (numV s.len)) rfl (RowN.of_block (heap_alloc_new wo _) rfl rfl) (fun h => by cases h) (cells_one5 _) (by omega) (by rw [World.size_alloc]; exact Nat.le_succ_of_le HWO.out) (L + 1) rfl ?_; intro ak1 ck1 w3 hown3 hg3 hat3)
        have hb3 : Below X2.heap.size X2 w3 := (HB.out.alloc HWO.out _).grown hg3 (by rw [World.size_alloc]; have := HWO.out; omega) (fun g hg => (HOB.out g hg).1)
        have HB3 := Lib.hid hb3
        have HW3 := Lib.hid hb3.size
        have hn3 : w3.ownsRow X2.heap.size 65 5 (.slice ak1 (L + 1) ck1) (L + 1) ((grpsV c.v.zs c.l.zs d ++ numV s.len :: (s.zs.take 0).map numV).flatMap Vl.cells) := by
          rw [List.flatMap_append]
          simpa using hown3
        have HN3 := Lib.hid hn3
        clear hown3 hg3 hat3 hb3 hn3 HO HWO HOB
        go_loopw [4, 30] (fun v4 i wr => ∃ (j : Nat) (ak : Option Addr) (ck : Nat), i = .int .i64 j ∧ j ≤ s.len ∧ v4 = .slice ak (L + 1 + j) ck ∧ wr.ownsRow X2.heap.size 65 5 (.slice ak (L + 1 + j) ck) (L + 1 + j) ((grpsV c.v.zs c.l.zs d ++ numV s.len :: (s.zs.take j).map numV).flatMap Vl.cells) ∧ Hid (Below X2.heap.size X2 wr)) (fun _ i _ => s.len - (intOf i).toNat)
        case atStart => exact ⟨0, ak1, ck1, rfl, by omega, rfl, HN3.out, HB3.out⟩
        case round =>
          obtain ⟨j, aj, cj, rfl, hj, rfl, hownj, HBJ⟩ := hrel
          have hbj := HBJ.out.size
          by_cases hjl : j < s.len
          · obtain ⟨b, off, z, hsa, hz, hcz⟩ := cellZ_at (HROW.out _ HBJ.out) j hjl
            have hjn : (j : Int) < (s.len : Int) := by omega
            have htk : s.zs.take (j + 1) = s.zs.take j ++ [z] := by rw [List.take_add_one, hz]; rfl
            have HT := Lib.hid htk
            have ho2 : ∀ o, (wr.alloc o).ownsRow X2.heap.size 65 5 (.slice aj (L + 1 + j) cj) (L + 1 + j) ((grpsV c.v.zs c.l.zs d ++ numV s.len :: (s.zs.take j).map numV).flatMap Vl.cells) := fun o => hownj.alloc o
            have HO := Lib.hid ho2
            have HOB : Hid (∀ g, Value.ownBlock (.slice aj (L + 1 + j) cj) = some g → X2.heap.size ≤ g ∧ g < wr.heap.size) := fun g hg => hownj.lt g hg
            have HBJS := Lib.hid hbj
            obtain ⟨sa, sl, sc, szs⟩ := s
            simp only at hsa
            subst hsa
            simp only at hj hjl hjn hl7 HO HOB HT
            clear htk hz ho2 hownj hbj HN3 HB3 HW3
            go_wp2_with (at_builtin; refine wpList_appendVal rfl (.tmp 34) (.tmp 37) rfl X2.heap.size aj (L + 1 + j) cj ((grpsV c.v.zs c.l.zs d ++ numV sl :: (szs.take j).map numV).flatMap Vl.cells) rfl (HO.out _) (some ⟨wr.heap.size, 0, none⟩) 1 1 (Vl.cells (numV z)) rfl (RowN.of_block (heap_alloc_new wr _) rfl rfl) (fun h => by cases h) (cells_one5 _) (by omega) (by rw [World.size_alloc]; exact Nat.le_succ_of_le HBJS.out) (L + 1 + (j + 1)) (by omega) ?_; intro ak4 ck4 w4 hown4 hg4 hat4)
            go_roundw
            case rel =>
              refine ⟨j + 1, ak4, ck4, by go_num, by omega, rfl, ?_, (HBJ.out.alloc HBJS.out _).grown hg4 (by rw [World.size_alloc]; have := HBJS.out; omega) (fun g hg => (HOB.out g hg).1)⟩
              rw [HT.out, List.map_append, ← List.cons_append, ← List.append_assoc, List.flatMap_append]
              simpa using hown4
            case measure => simp [intOf]; omega
          · have hje : j = s.len := by omega
            subst hje
            have hnn : wr.ownsRow X2.heap.size 65 5 (.slice aj (L + 1 + s.len) cj) (L + 1 + s.len) ((grpsV c.v.zs c.l.zs (d + 1)).flatMap Vl.cells) := by
              rw [HGN.out, grpV, HZS.out]
              rw [List.take_of_length_le (by rw [HZS.out]; exact Nat.le_refl _)] at hownj
              exact hownj
            have hln : (grpsV c.v.zs c.l.zs (d + 1)).length = L + 1 + s.len := by
              rw [HGN.out, List.length_append, ← HLL.out, grpV, List.length_cons, List.length_map, HZS.out]
              omega
            have HNN := Lib.hid hnn
            have HLN := Lib.hid hln
            clear hownj hnn hln HN3 HB3 HW3 hbj
            go_wp2_with fail
            go_roundw
            case rel =>
              refine ⟨d + 1, aj, cj, by go_num, by omega, ?_, ?_, HBJ.out⟩
              · rw [HLN.out]
              · rw [HLN.out]; exact HNN.out
            case measure => simp [intOf]; omega
      · have hde : d = 2 := by omega
        subst hde
        subst hwo
        have hrow : RowN wo ak 5 (confVals c.v.zs c.l.zs).length ((confVals c.v.zs c.l.zs).flatMap Vl.cells) := RowN.of_own hown
        have HP := Lib.hid (HPUT.out ak ck wo hrow)
        simp only [grpsV] at *
        clear hown hrow HPUT HGL HPK HPR
        go_wp2_with fail
        refine HP.out.mono ?_
        rintro e w5 ⟨ao, cap, rfl, ho5, hb5⟩
        have HO5 := Lib.hid ho5
        have HB5 := Lib.hid hb5
        clear ho5 hb5
        go_wp2_with fail
        go_ret2
        exact ⟨ao, cap, rfl, own_more HO5.out (by have := HB.out.size; have := HWX.out; omega), below_then HXB.out (below_then HB2.out (below_then HB.out HB5.out))⟩
end Go.Proofs.Ytcejamblndilbaa
