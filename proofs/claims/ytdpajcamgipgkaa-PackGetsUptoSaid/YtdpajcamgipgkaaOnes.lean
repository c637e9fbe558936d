/- PackOnes: bytes that are got are what the values are put as: the walk. -/
import Derived.Test.YtdpajcamgipgkaaCodec
import Derived.Test.YtdpajcamgipgkaaPuts
namespace Go.Proofs.Ytdpajcamgipgkaa
open Go.RowKit

theorem getV_one : getV [1] [1] = ([⟨1, -1, 0, [], false⟩], 0) := by kernel_rfl

theorem map_one {vs : List Vl} {p : Pv} (h : vs.map Vl.pv = [p]) : ∃ s, vs = [p.vl s] ∧ s.bs = p.bs := by
  cases vs with
  | nil => cases h
  | cons v r =>
    cases r with
    | nil =>
      simp only [List.map_cons, List.map_nil, List.cons.injEq, and_true] at h
      subst h
      exact ⟨v.s, rfl, rfl⟩
    | cons v' r' => simp at h

set_option maxRecDepth 100000 in
set_option maxHeartbeats 1600000 in
theorem getting_any (w : World) : Calls Try.prog 36 #[] w fun e w' => e = .returned (.bool true) ∧ Below w.heap.size w w' := by
  go_enter Try.func36, Try.ntmps36
  go_wp2_with fail
  have hb0 : Below w.heap.size w ((w.alloc (.cells #[.int .u8 1] 5)).alloc (.cells #[.int .i64 1] 3)) := ((Below.refl _ _).alloc (Nat.le_refl _) _).alloc (by rw [World.size_alloc]; omega) _
  refine (get_any (some ⟨w.heap.size, 0, none⟩) 1 1 [1] (some ⟨w.heap.size + 1, 0, none⟩) 1 1 [1] _ ((Row8.new _ _ _ _ [1] 1 rfl rfl).alloc _) (Nat.le_refl _) (by decide) (fun h => by cases h) (RowN.new2 _ _ _ _ 1 1 _ _ rfl rfl rfl) (by decide)).mono ?_
  rw [getV_one]
  rintro e w1 ⟨vs, ao, n, cap, rfl, hpv, hO, hb1⟩
  obtain ⟨s, rfl, hs⟩ := map_one hpv
  obtain rfl : 1 = n := hO.len
  have hbw : Below w.heap.size w w1 := hb0.trans (hb1.mono hb0.size)
  obtain ⟨b, off, rfl, _, hc1, _⟩ := vals_at (RowN.of_own hO.row) rfl 0 (by omega) _ rfl
  simp only [Pv.vl, Nat.zero_mul, Nat.add_zero] at hc1
  clear hpv hs hO hb1 hb0
  go_wp2_with fail
  go_ret
  exact ⟨rfl, hbw⟩

theorem getV_ok {zs : List Int} {bs : List UInt8} {ps : List Pv} (h : getV zs bs = (ps, 0)) : (∀ z ∈ zs, 1 ≤ z ∧ z ≤ 4) ∧ getAcc zs bs [] = some (ps, []) := by
  rw [getV] at h
  split at h
  · cases h
  · rename_i hb
    refine ⟨fun z hz => badKind_no ?_, ?_⟩
    · cases hz' : badKind z with
      | false => rfl
      | true => exact absurd (List.any_eq_true.2 ⟨z, hz, hz'⟩) hb
    · split at h
      · rename_i heq
        injection h with h1 h2
        subst h1
        exact heq
      · cases h
theorem getV_no {zs : List Int} {bs : List UInt8} {ps : List Pv} {c : Nat} (h : getV zs bs = (ps, c)) (hc : c ≠ 0) : ps = [] := by
  rw [getV] at h
  split at h
  · injection h with h1 h2
    exact h1.symm
  · split at h
    · injection h with h1 h2
      exact absurd h2.symm hc
    · injection h with h1 h2
      exact h1.symm
theorem getV_yes {zs : List Int} {bs : List UInt8} {ps : List Pv} (h1 : ∀ z ∈ zs, 1 ≤ z ∧ z ≤ 4) (h2 : getAcc zs bs [] = some (ps, [])) : getV zs bs = (ps, 0) := by
  have hb : zs.any badKind = false := by
    rw [List.any_eq_false]
    intro z hz
    have := h1 z hz
    simp [badKind]
    omega
  rw [getV, if_neg (by simp [hb]), h2]

theorem numBytes_pos (n : Int) : 1 ≤ (numBytes n).length := by
  rw [numBytes, lebF]
  split <;> simp

theorem bytes_pv (v : Vl) (h : v.s.bs.length = v.s.len) : v.bytes = v.pv.bytes := by
  simp only [Vl.bytes, Pv.bytes, Vl.pv, h]
  rfl
theorem err_fit (v : Vl) (h : v.s.bs.length = v.s.len) (hf : v.pv.fit) : v.err = 0 := by
  obtain ⟨⟨h1, h4⟩, _, _, hb⟩ := hf
  simp only [Vl.pv] at h1 h4 hb
  unfold Vl.err
  by_cases h3 : v.kind = 3
  · rw [if_pos h3, if_pos (by rw [← h]; exact hb h3)]
  · rw [if_neg h3, if_pos (by omega)]
theorem put_fit (vs : List Vl) (h : ∀ v ∈ vs, v.pv.fit ∧ v.s.bs.length = v.s.len) : ∀ acc, putAll vs acc = (acc ++ (vs.map Vl.pv).flatMap Pv.bytes, 0) := by
  induction vs with
  | nil => intro acc; simp [putAll]
  | cons v r ih =>
    intro acc
    obtain ⟨h1, h2⟩ := h v (List.mem_cons_self ..)
    rw [putAll_ok (err_fit v h2 h1), ih (fun u hu => h u (List.mem_cons_of_mem _ hu)), List.map_cons, List.flatMap_cons, bytes_pv v h2, List.append_assoc]
theorem bulk_fine (vs : List Vl) (h : ∀ v ∈ vs, v.pv.fine ∧ v.s.bs.length = v.s.len) : bulkV vs ≤ ((vs.map Vl.pv).flatMap Pv.bytes).length := by
  induction vs with
  | nil => exact Nat.le_refl _
  | cons v r ih =>
    obtain ⟨h1, h2⟩ := h v (List.mem_cons_self ..)
    have := ih (fun u hu => h u (List.mem_cons_of_mem _ hu))
    rw [bulkV_cons, List.map_cons, List.flatMap_cons, List.length_append]
    have hv : v.s.len + 1 ≤ v.pv.bytes.length := by
      rw [← h2]
      by_cases h3 : v.kind = 3
      · simp only [Pv.bytes, Vl.pv, h3]
        have := numBytes_pos v.s.bs.length
        simp
        omega
      · have hb : v.s.bs = [] := h1.b h3
        rw [hb]
        simp only [Pv.bytes]
        split
        · exact numBytes_pos _
        · split
          · rw [key_len]; decide
          · split
            · rename_i h; exact absurd h h3
            · exact Nat.le_refl _
    omega

/-- values that were got are right ones -/
theorem OwnVals.ok {w : World} {base : Nat} {vs : List Vl} {ao : Option Addr} {n cap : Nat} (h : OwnVals w base vs ao n cap) (hf : ∀ v ∈ vs, v.pv.fit) : ∀ v ∈ vs, Vl.ok w v := fun v hv => by
  have h1 := h.own v hv
  have h2 := hf v hv
  exact ⟨⟨h1.row, h1.cap.1, h1.cap.2, h1.nocap⟩, h2.x, h2.n, by have := h2.k; simp only [Vl.pv] at this; omega⟩

set_option maxRecDepth 100000 in
set_option maxHeartbeats 1600000 in
theorem packOnes_walk (a : Option Addr) (len cap : Nat) (bs : List UInt8) (az : Option Addr) (nz cz : Nat) (zs : List Int) (w : World) (hr : Row8 w a len bs) (hlc : len ≤ cap) (hcm : cap ≤ maxLen) (hn : a = none → cap = 0)
    (hrow : RowN w az 1 nz (cellsI zs)) (hzc : nz ≤ cz) (_hzm : cz ≤ maxLen) (_hzn : az = none → cz = 0) (hbulk : cap + cz ≤ 1048576) :
    Calls Try.prog 14 #[.slice a len cap, .slice az nz cz] w fun e w' => e = .returned (.bool true) ∧ Below w.heap.size w w' := by
  have hbl := hr.1
  have hget := fun w' (hb : Below w.heap.size w w') => get_any a len cap bs az nz cz zs w' (hr.below hb) hlc hcm hn ⟨hrow.1, (hrow.below hb).2⟩ (by omega)
  obtain ⟨ps, c, hp⟩ : ∃ ps c, getV zs bs = (ps, c) := ⟨_, _, rfl⟩
  rw [hp] at hget
  have HR := Lib.hid hr
  have HG := Lib.hid hget
  have HP := Lib.hid hp
  have HBL := Lib.hid hbl
  clear hget hr hrow hp hbl
  go_enter Try.func14, Try.ntmps14
  go_wp2_with fail
  refine (putting_any _).mono ?_
  rintro e w1 ⟨rfl, hb1⟩
  have hz1 := hb1.size
  go_wp2_with fail
  refine (getting_any _).mono ?_
  rintro e w2 ⟨rfl, hb2⟩
  replace hb2 := hb1.trans (hb2.mono hz1)
  have hz2 := hb2.size
  go_wp2_with fail
  refine (HG.out _ hb2).mono ?_
  rintro e w3 ⟨vs, ao, n, cap3, rfl, hpv, hO, hb3⟩
  have hbw3 := hb2.trans (hb3.mono hz2)
  have hz3 := hbw3.size
  have HO := Lib.hid hO
  have HB := Lib.hid hbw3
  clear hO hb1 hb2 hb3
  simp only at hpv
  have HPV := Lib.hid hpv
  clear hpv
  by_cases hc : c = 0
  · subst hc
    go_wp2_with fail
    obtain ⟨hz, hacc⟩ := getV_ok HP.out
    obtain ⟨qs, h1, _, h2, h3⟩ := bytes_getAcc zs hz bs [] [] ps hacc
    rw [List.nil_append] at h1
    rw [List.append_nil] at h2
    subst h1
    have hf : ∀ v ∈ vs, v.pv.fine ∧ v.s.bs.length = v.s.len := fun v hv => ⟨h3 _ (by rw [← HPV.out]; exact List.mem_map_of_mem hv), (HO.out.own v hv).length⟩
    have hput := put_fit vs (fun v hv => ⟨(hf v hv).1.fit, (hf v hv).2⟩) []
    have hbk := bulk_fine vs hf
    rw [HPV.out, List.nil_append, ← h2] at hput
    rw [HPV.out, ← h2, HBL.out] at hbk
    have hp := put_any ao n cap3 vs w3 (RowN.of_own HO.out.row) HO.out.len (HO.out.ok fun v hv => (hf v hv).1.fit) (by omega)
    rw [hput] at hp
    have HPP := Lib.hid hp
    clear hz hacc h2 h3 hf hput hp hbk
    refine HPP.out.mono ?_
    rintro e w4 ⟨ao4, c4, rfl, hown4, hb4⟩
    have hbw4 := HB.out.trans (hb4.mono hz3)
    go_wp2_with fail
    refine (same_any a ao4 len bs.length cap c4 bs bs _ (HR.out.below hbw4) hown4.row (by simp only [maxLen]; omega) (by simp only [maxLen]; rw [HBL.out]; omega)).mono ?_
    rintro e w5 ⟨rfl, q, rfl⟩
    rw [decide_eq_true rfl]
    go_wp2
    go_ret
    exact ⟨rfl, below_drewN hbw4 q⟩
  · have hps := getV_no HP.out hc
    have hvs : vs = [] := by have := HPV.out; rw [hps] at this; simpa using this
    have hn0 : n = 0 := by rw [← HO.out.len, hvs]; rfl
    subst hn0
    have hci : ((c : Int) == 0) = false := by simp; omega
    go_wp2_with fail
    go_ret
    exact ⟨rfl, HB.out⟩
end Go.Proofs.Ytdpajcamgipgkaa
