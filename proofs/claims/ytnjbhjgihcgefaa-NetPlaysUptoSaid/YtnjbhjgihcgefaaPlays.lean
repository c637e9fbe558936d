/- NetPlays: the walk. -/
import Derived.Test.YtnjbhjgihcgefaaPlay3
import Derived.Test.YtnjbhjgihcgefaaMade
import Derived.Deep.CutRange
namespace Go.Proofs.Ytnjbhjgihcgefaa
open Go.RowKit

set_option maxRecDepth 100000 in
set_option maxHeartbeats 60000000 in
theorem netPlays_walk (most : Int) (a : Option Addr) (len cap : Nat) (os : List OpL) (w : World) (hr : RowN w a 6 len (os.flatMap OpL.cells)) (hol : os.length = len) (hok : ∀ o ∈ os, Sl.ok w o.s) (_hlc : len ≤ cap) (_hcm : cap ≤ maxLen) (_hn : a = none → cap = 0)
    (hbulk : bulkO os ≤ 1048576) :
    Calls Try.prog 4 #[.int .i64 most, .slice a len cap] w fun e w' => e = .returned (.bool true) ∧ Below w.heap.size w w' := by
  have hlb := bulkO_len os
  obtain ⟨mo, hmo, hmo2⟩ := mostOf_nat most
  have hlen : len ≤ 1048576 := by omega
  have HMO := Lib.hid hmo
  have HR := Lib.hid hr
  have HOL := Lib.hid hol
  have HOK := Lib.hid hok
  have HBK := Lib.hid hbulk
  clear hr hok hlb hmo hbulk hol
  go_enter Try.func4, Try.ntmps4
  go_wp2_with fail
  refine (new_any most _).mono ?_
  rintro e w1 ⟨rfl, hN1, hb1⟩
  rw [HMO.out] at hN1
  have hz1 := hb1.size
  go_wp2_with fail
  refine (alive_any _).mono ?_
  rintro e w2 ⟨rfl, hb2⟩
  have hbw2 : Below w.heap.size w w2 := below_then hb1 hb2
  have hN2 := hN1.below hb2
  clear hN1 hb1 hb2
  go_wp2_with fail
  refine (rnew_any most _).mono ?_
  rintro e w3 ⟨rfl, hb3⟩
  rw [HMO.out]
  have hbw3 : Below w.heap.size w w3 := below_then hbw2 hb3
  have hN3 := hN2.below hb3
  have hz3 := hbw3.size
  have hP : PlayAt (w3.alloc (.cells #[.int .i64 mo, .slice none 0 0] 40)) w.heap.size w3.heap.size mo [] [] none none 0 0 0 :=
    ⟨hN3.below ((Below.refl _ _).alloc (Nat.le_refl _) _), heap_alloc_new w3 _, RefAt.nil _ _, rfl, by have := lt_of_block hN3.cell; omega, by omega, fun x hx => by cases hx⟩
  have HP := Lib.hid hP
  have HB3 := Lib.hid (below_alloc hbw3 (.cells #[.int .i64 mo, .slice none 0 0] 40))
  clear hN2 hbw2 hb3 hbw3 hN3 hP
  go_wp2_with fail
  go_loopw [31] (fun i wr => ∃ (k : Nat) (ls us : List L3) (ao ar : Option Addr) (n cn cr : Nat), k ≤ len ∧ i = .int .i64 k ∧ PlayAt wr w.heap.size w3.heap.size mo ls us ao ar n cn cr ∧ Below w.heap.size w wr) (fun i _ => len - (intOf i).toNat)
  case atStart => exact ⟨0, [], [], none, none, 0, 0, 0, by omega, rfl, HP.out, HB3.out⟩
  case round =>
    obtain ⟨k, ls, us, ao, ar, n, cn, cr, hk, rfl, hP, hbw⟩ := hrel
    have hzw := hbw.size
    by_cases hlt : k < len
    · obtain ⟨o, ho⟩ : ∃ o, os[k]? = some o := ⟨_, List.getElem?_eq_getElem (by rw [HOL.out]; exact hlt)⟩
      have hmem := List.mem_of_getElem? ho
      have hso := HOK.out o hmem
      have hbo := bulkO_mem hmem
      have hbk := HBK.out
      obtain ⟨b, off, rfl, c0, c1, c2, c3, c4, c5⟩ := ops_at (HR.out.below hbw) HOL.out k hlt o ho
      have hkl : (k : Int) < (len : Int) := by omega
      have hbb : Below wr.heap.size wr (wr.alloc (.cells #[.int .i64 o.kd, .int .i64 o.i, .int .i64 o.k, .int .i64 o.f, .int .i64 o.t, .slice o.s.a o.s.len o.s.cap] 43)) := (Below.refl _ _).alloc (Nat.le_refl _) _
      have hPb := hP.below hbb
      have hbwb := below_then hbw hbb
      have HPb := Lib.hid hPb
      have HBWb := Lib.hid hbwb
      have HSO := Lib.hid hso
      have hzB := lt_of_block hP.box
      have hnl : ∀ g, Value.ownBlock (.slice ao n cn) = some g → g < wr.heap.size := fun g e => (hP.net.row.lt g e).2
      have hnN := lt_of_block hP.net.cell
      clear hP hPb hbw hbwb hso hmem ho
      by_cases hkd : 1 ≤ o.kd ∧ o.kd ≤ 6
      · have hk1 : ¬ o.kd < 1 := by omega
        have hk6 : ¬ o.kd > 6 := by omega
        have hl48 : o.s.len ≤ 140737488355328 := by omega
        have hcap := HPb.out.cap
        have hd := does_any w.heap.size mo ls ao n cn o.kd o.i o.k o.f o.t o.s.a o.s.len o.s.cap o.s.bs _ HPb.out.net hkd (by omega) ((HSO.out.below HBWb.out).1) (fun e => by have h1 := HSO.out.2.2.2 e; have h2 := HSO.out.2.1; omega) hl48 HPb.out.big
        have HD := Lib.hid hd
        have hst := small_step mo o.kd o.i o.k (o.f, o.t, o.s.bs) HPb.out.small (by have := HSO.out.1.1; simp only; omega)
        have hsl := len_step mo (xs := ls.map L3.says) o.kd o.i o.k (o.f, o.t, o.s.bs) (by rw [List.length_map, HPb.out.net.len]; exact hcap)
        obtain ⟨r, hr⟩ : ∃ r, r = netStep mo (ls.map L3.says) o.kd o.i o.k (o.f, o.t, o.s.bs) := ⟨_, rfl⟩
        rw [← hr] at HD hst hsl
        have HST := Lib.hid hst
        have HSL := Lib.hid hsl
        have HRR := Lib.hid hr
        clear hd hst hsl hr
        go_wp2_with fail
        refine HD.out.mono ?_
        rintro e w4 ⟨ls', ao', n', cn', a4, len4, cc4, rfl, hrow4, hl4, hsay, hN4, hs4⟩
        obtain ⟨hbx4, hR4, hF4⟩ := HPb.out.does hN4 hs4
        have hbw4 := HBWb.out.trans (NStep.below HPb.out.net hs4)
        have hz4 := hbw4.size
        have hop4 := (hs4.block wr.heap.size (by rw [World.size_alloc]; omega) (by omega) (fun e => by rw [own_addr ao 0 0 n cn] at e; have := hnl _ e; omega)).trans (heap_alloc_new wr _)
        have hz4' := lt_of_block hop4
        have hX : Below w4.heap.size w4 (w4.alloc (.cells #[.int .i64 r.2.2.1, .int .i64 r.2.2.2.1, .slice a4 len4 cc4] 30)) := (Below.refl _ _).alloc (Nat.le_refl _) _
        have hXc := heap_alloc_new w4 (.cells #[.int .i64 r.2.2.1, .int .i64 r.2.2.2.1, .slice a4 len4 cc4] 30)
        obtain ⟨X, hXe⟩ : ∃ X, X = w4.alloc (.cells #[.int .i64 r.2.2.1, .int .i64 r.2.2.2.1, .slice a4 len4 cc4] 30) := ⟨_, rfl⟩
        rw [← hXe] at hX hXc
        go_wp2_with fail
        rw [← hXe]
        have hbwX : Below w.heap.size w X := below_then hbw4 hX
        have hboxX := (hX.block w3.heap.size (lt_of_block hbx4)).trans hbx4
        have hopX := (hX.block wr.heap.size hz4').trans hop4
        have hzX := hX.size
        have hltB := lt_of_block hbx4
        obtain ⟨p0, p1, _, _⟩ := two_cells hboxX
        obtain ⟨q0, q1, q2, q3, q4, q5⟩ := six_cells hopX
        have hRX := hR4.below hX
        have hwN := HBWb.out.size
        have hdo : ∀ Z, Below X.heap.size X Z → Calls Try.prog 15 #[.agg #[.int .i64 mo, .slice ar n cr], .agg #[.int .i64 o.kd, .int .i64 o.i, .int .i64 o.k, .int .i64 o.f, .int .i64 o.t, .slice o.s.a o.s.len o.s.cap]] Z (RefDo Z (Apart (Far w.heap.size w3.heap.size ao') X.heap.size Z.heap.size) mo r) := fun Z hZ => by
          have h1 := rdo_any (Apart (Far w.heap.size w3.heap.size ao') X.heap.size Z.heap.size) us mo ar n cr o Z ((hRX.apart _).below hZ) hkd (by omega) ((HSO.out.below hbwX).below hZ) (fun b off e hn => ?_) HPb.out.bigR (fun b hb => ⟨hF4 b (by have := hZ.size; omega), .inr hb⟩) (by omega)
          · rw [← HPb.out.same, ← HRR.out] at h1
            exact h1
          · have h1 := HSO.out.1.lt b off e hn
            exact ⟨⟨by omega, by omega, fun e => by rw [own_addr ao' 0 0 n' cn'] at e; have := (hN4.row.lt b e).1; omega⟩, .inl (by have := hbwX.size; omega)⟩
        have hcells : ∀ w', Below X.heap.size X w' → (w'.cell? ⟨w3.heap.size, 0, none⟩ = some (.int .i64 mo) ∧ w'.cell? ⟨w3.heap.size, 1, none⟩ = some (.slice ar n cr) ∧ w'.cell? ⟨wr.heap.size, 0, none⟩ = some (.int .i64 o.kd) ∧ w'.cell? ⟨wr.heap.size, 1, none⟩ = some (.int .i64 o.i) ∧ w'.cell? ⟨wr.heap.size, 2, none⟩ = some (.int .i64 o.k) ∧ w'.cell? ⟨wr.heap.size, 3, none⟩ = some (.int .i64 o.f) ∧ w'.cell? ⟨wr.heap.size, 4, none⟩ = some (.int .i64 o.t) ∧ w'.cell? ⟨wr.heap.size, 5, none⟩ = some (.slice o.s.a o.s.len o.s.cap)) := fun w' hb => by
          obtain ⟨p0, p1, _, _⟩ := two_cells ((hb.block w3.heap.size (by omega)).trans hboxX)
          obtain ⟨q0, q1, q2, q3, q4, q5⟩ := six_cells ((hb.block wr.heap.size (by omega)).trans hopX)
          exact ⟨p0, p1, q0, q1, q2, q3, q4, q5⟩
        have HCE := Lib.hid hcells
        have hn1 : X.heap.size ≠ w3.heap.size := by omega
        have hn2 : X.heap.size ≠ wr.heap.size := by omega
        have hn3 : X.heap.size + 1 ≠ w3.heap.size := by omega
        have hn4 : X.heap.size + 1 ≠ wr.heap.size := by omega
        have HDO := Lib.hid hdo
        have HN4 := Lib.hid (hN4.below hX)
        have HROW := Lib.hid (hrow4.below hX)
        have HBWX := Lib.hid hbwX
        have HF4 := Lib.hid hF4
        have HXC := Lib.hid hXc
        have HSAY := Lib.hid hsay
        have HBX := Lib.hid hboxX
        have HXE := Lib.hid hXe
        have HX := Lib.hid hX
        have HXS : Hid (X.heap.size = w4.heap.size + 1) := Lib.hid (by rw [hXe, World.size_alloc])
        clear hcells hdo hN4 hrow4 hbwX hF4 hXc hsay hboxX hopX hRX hs4 hR4 hbx4 hop4 hbw4 hX hXe
        go_cut [11, 12, 13, 31] from 31 to 84 (fun v11 v12 v13 v31 wx => ∃ (b11 b12 : Nat) (us' : List L3) (ar' : Option Addr) (n' cr' : Nat) (s : Sl), v31 = .int .i64 k ∧ v11 = .pointer (some ⟨b11, 0, none⟩) ∧ v12 = .pointer (some ⟨b12, 0, none⟩) ∧ v13 = .bool r.2.1 ∧
          (wx.cell? ⟨b11, 0, none⟩ = some (.int .i64 mo) ∧ wx.cell? ⟨b11, 1, none⟩ = some (.slice ar' n' cr')) ∧ (wx.cell? ⟨b12, 0, none⟩ = some (.int .i64 r.2.2.1) ∧ wx.cell? ⟨b12, 1, none⟩ = some (.int .i64 r.2.2.2.1) ∧ wx.cell? ⟨b12, 2, none⟩ = some (.slice s.a s.len s.cap)) ∧
          us'.map L3.says = r.1 ∧ s.bs = r.2.2.2.2 ∧ RefAt wx (Far w.heap.size w3.heap.size ao') us' ar' n' ∧ Sl.ok wx s ∧ SlP (Far w.heap.size w3.heap.size ao') s ∧ X.heap.size ≤ b11 ∧ X.heap.size ≤ b12 ∧ Below X.heap.size X wx)
        case first =>
          go_region_held3 (fun w' => w'.cell? ⟨w3.heap.size, 0, none⟩ = some (.int .i64 mo) ∧ w'.cell? ⟨w3.heap.size, 1, none⟩ = some (.slice ar n cr) ∧ w'.cell? ⟨wr.heap.size, 0, none⟩ = some (.int .i64 o.kd) ∧ w'.cell? ⟨wr.heap.size, 1, none⟩ = some (.int .i64 o.i) ∧ w'.cell? ⟨wr.heap.size, 2, none⟩ = some (.int .i64 o.k) ∧ w'.cell? ⟨wr.heap.size, 3, none⟩ = some (.int .i64 o.f) ∧ w'.cell? ⟨wr.heap.size, 4, none⟩ = some (.int .i64 o.t) ∧ w'.cell? ⟨wr.heap.size, 5, none⟩ = some (.slice o.s.a o.s.len o.s.cap))
            (first | exact HCE.out _ hX6 | exact HCE.out _ hX5 | go_keep)
            (first
              | (go_at_call 16; refine (of_any o.f o.t o.s.a o.s.len o.s.cap _).mono ?_; rintro e w5 ⟨rfl, hb5⟩; have hX5 : Below X.heap.size X w5 := below_then (by repeat first | exact Below.refl _ _ | refine Below.drew ?_ | refine below_alloc ?_ _) hb5; have hz5 := hX5.size; have hm1 : w5.heap.size ≠ w3.heap.size := by omega
                 have hm2 : w5.heap.size ≠ wr.heap.size := by omega
                 have hm3 : w5.heap.size + 1 ≠ w3.heap.size := by omega
                 have hm4 : w5.heap.size + 1 ≠ wr.heap.size := by omega
                 have hs5 := hb5.size; try simp only [World.size_alloc, size_drew] at hs5
                 have hed : X.drew.heap.size = X.heap.size := rfl
                 try have hq0 : X.heap.size ≠ w5.heap.size := by omega
                 try have hq1 : w5.heap.size ≠ X.heap.size := by omega
                 try have hq2 : X.heap.size ≠ w5.heap.size + 1 := by omega
                 try have hq3 : w5.heap.size + 1 ≠ X.heap.size := by omega
                 try have hq4 : X.heap.size + 1 ≠ w5.heap.size := by omega
                 try have hq5 : w5.heap.size ≠ X.heap.size + 1 := by omega
                 try have hq6 : X.heap.size + 1 ≠ w5.heap.size + 1 := by omega
                 try have hq7 : w5.heap.size + 1 ≠ X.heap.size + 1 := by omega
                 have h5 : ∀ (g : Nat) (o : Obj), _ → w5.heap[g]? = some o := fun g o (h : _) => (hb5.block g (lt_of_block h)).trans h
                 try have b5a : w5.heap[X.heap.size]? = some (.cells #[.int .i64 0, .slice none 0 0] 40 (0, 0)) := h5 _ _ (by first | exact heap_alloc_new X _ | exact alloc_new1 X _ _ | exact (heap_alloc_old (X.alloc _) _ (by simp)).trans (heap_alloc_new X _))
                 try have b5b : w5.heap[X.heap.size]? = some (.cells #[.int .i64 0, .int .i64 0, .slice none 0 0] 45 (0, 0)) := h5 _ _ (by first | exact heap_alloc_new X _ | exact alloc_new1 X _ _ | exact (heap_alloc_old (X.alloc _) _ (by simp)).trans (heap_alloc_new X _))
                 try have b5c : w5.heap[X.heap.size + 1]? = some (.cells #[.int .i64 0, .slice none 0 0] 40 (0, 0)) := h5 _ _ (by first | exact heap_alloc_new X _ | exact alloc_new1 X _ _ | exact (heap_alloc_old (X.alloc _) _ (by simp)).trans (heap_alloc_new X _))
                 try have b5d : w5.heap[X.heap.size + 1]? = some (.cells #[.int .i64 0, .int .i64 0, .slice none 0 0] 45 (0, 0)) := h5 _ _ (by first | exact heap_alloc_new X _ | exact alloc_new1 X _ _ | exact (heap_alloc_old (X.alloc _) _ (by simp)).trans (heap_alloc_new X _))
                 have HB5 := Lib.hid hb5; clear hb5 h5)
              | (go_at_call 15; refine (HDO.out _ (by repeat first | exact hX5 | refine below_alloc ?_ _)).mono ?_; rintro e w6 ⟨us', ar', n', cr', s, rfl, hsay6, hR6, hS6, hbs6, hb6, hsp6⟩; have hX6 : Below X.heap.size X w6 := below_then (by repeat first | exact hX5 | refine below_alloc ?_ _) hb6; have hz6 := hX6.size
                 have hl1 : w6.heap.size ≠ w3.heap.size := by omega
                 have hl2 : w6.heap.size ≠ wr.heap.size := by omega
                 have hl3 : w6.heap.size + 1 ≠ w3.heap.size := by omega
                 have hl4 : w6.heap.size + 1 ≠ wr.heap.size := by omega
                 have hs6 := hb6.size; try simp only [World.size_alloc] at hs6
                 try have hq8 : X.heap.size ≠ w6.heap.size := by omega
                 try have hq9 : w6.heap.size ≠ X.heap.size := by omega
                 try have hq10 : X.heap.size ≠ w6.heap.size + 1 := by omega
                 try have hq11 : w6.heap.size + 1 ≠ X.heap.size := by omega
                 try have hq12 : X.heap.size + 1 ≠ w6.heap.size := by omega
                 try have hq13 : w6.heap.size ≠ X.heap.size + 1 := by omega
                 try have hq14 : X.heap.size + 1 ≠ w6.heap.size + 1 := by omega
                 try have hq15 : w6.heap.size + 1 ≠ X.heap.size + 1 := by omega
                 try have hq16 : w5.heap.size ≠ w6.heap.size := by omega
                 try have hq17 : w6.heap.size ≠ w5.heap.size := by omega
                 try have hq18 : w5.heap.size ≠ w6.heap.size + 1 := by omega
                 try have hq19 : w6.heap.size + 1 ≠ w5.heap.size := by omega
                 try have hq20 : w5.heap.size + 1 ≠ w6.heap.size := by omega
                 try have hq21 : w6.heap.size ≠ w5.heap.size + 1 := by omega
                 try have hq22 : w5.heap.size + 1 ≠ w6.heap.size + 1 := by omega
                 try have hq23 : w6.heap.size + 1 ≠ w5.heap.size + 1 := by omega
                 have h6 : ∀ (g : Nat) (o : Obj), _ → w6.heap[g]? = some o := fun g o h => (hb6.block g (lt_of_block h)).trans h
                 try have d6a : w6.heap[X.heap.size]? = some (.cells #[.int .i64 0, .slice none 0 0] 40 (0, 0)) := h6 _ _ (by first | exact b5a | exact (heap_alloc_old _ _ (lt_of_block b5a)).trans b5a | exact (heap_alloc_old _ _ (by have := lt_of_block b5a; simp only [World.size_alloc]; omega)).trans ((heap_alloc_old _ _ (lt_of_block b5a)).trans b5a))
                 try have cd6a := two_cells d6a
                 try have ed6a := fun o => two_cells ((heap_alloc_old w6 o (lt_of_block d6a)).trans d6a)
                 try have d6b : w6.heap[X.heap.size]? = some (.cells #[.int .i64 0, .int .i64 0, .slice none 0 0] 45 (0, 0)) := h6 _ _ (by first | exact b5b | exact (heap_alloc_old _ _ (lt_of_block b5b)).trans b5b | exact (heap_alloc_old _ _ (by have := lt_of_block b5b; simp only [World.size_alloc]; omega)).trans ((heap_alloc_old _ _ (lt_of_block b5b)).trans b5b))
                 try have cd6b := three_cells d6b
                 try have ed6b := fun o => three_cells ((heap_alloc_old w6 o (lt_of_block d6b)).trans d6b)
                 try have d6c : w6.heap[X.heap.size + 1]? = some (.cells #[.int .i64 0, .slice none 0 0] 40 (0, 0)) := h6 _ _ (by first | exact b5c | exact (heap_alloc_old _ _ (lt_of_block b5c)).trans b5c | exact (heap_alloc_old _ _ (by have := lt_of_block b5c; simp only [World.size_alloc]; omega)).trans ((heap_alloc_old _ _ (lt_of_block b5c)).trans b5c))
                 try have cd6c := two_cells d6c
                 try have ed6c := fun o => two_cells ((heap_alloc_old w6 o (lt_of_block d6c)).trans d6c)
                 try have d6d : w6.heap[X.heap.size + 1]? = some (.cells #[.int .i64 0, .int .i64 0, .slice none 0 0] 45 (0, 0)) := h6 _ _ (by first | exact b5d | exact (heap_alloc_old _ _ (lt_of_block b5d)).trans b5d | exact (heap_alloc_old _ _ (by have := lt_of_block b5d; simp only [World.size_alloc]; omega)).trans ((heap_alloc_old _ _ (lt_of_block b5d)).trans b5d))
                 try have cd6d := three_cells d6d
                 try have ed6d := fun o => three_cells ((heap_alloc_old w6 o (lt_of_block d6d)).trans d6d)
                 try have d6e : w6.heap[w5.heap.size]? = some (.cells #[.int .i64 0, .slice none 0 0] 40 (0, 0)) := h6 _ _ (by first | exact heap_alloc_new _ _ | exact alloc_new1 _ _ _ | exact (heap_alloc_old _ _ (by simp)).trans (heap_alloc_new _ _))
                 try have cd6e := two_cells d6e
                 try have ed6e := fun o => two_cells ((heap_alloc_old w6 o (lt_of_block d6e)).trans d6e)
                 try have d6f : w6.heap[w5.heap.size]? = some (.cells #[.int .i64 0, .int .i64 0, .slice none 0 0] 45 (0, 0)) := h6 _ _ (by first | exact heap_alloc_new _ _ | exact alloc_new1 _ _ _ | exact (heap_alloc_old _ _ (by simp)).trans (heap_alloc_new _ _))
                 try have cd6f := three_cells d6f
                 try have ed6f := fun o => three_cells ((heap_alloc_old w6 o (lt_of_block d6f)).trans d6f)
                 try have d6g : w6.heap[w5.heap.size + 1]? = some (.cells #[.int .i64 0, .slice none 0 0] 40 (0, 0)) := h6 _ _ (by first | exact heap_alloc_new _ _ | exact alloc_new1 _ _ _ | exact (heap_alloc_old _ _ (by simp)).trans (heap_alloc_new _ _))
                 try have cd6g := two_cells d6g
                 try have ed6g := fun o => two_cells ((heap_alloc_old w6 o (lt_of_block d6g)).trans d6g)
                 try have d6h : w6.heap[w5.heap.size + 1]? = some (.cells #[.int .i64 0, .int .i64 0, .slice none 0 0] 45 (0, 0)) := h6 _ _ (by first | exact heap_alloc_new _ _ | exact alloc_new1 _ _ _ | exact (heap_alloc_old _ _ (by simp)).trans (heap_alloc_new _ _))
                 try have cd6h := three_cells d6h
                 try have ed6h := fun o => three_cells ((heap_alloc_old w6 o (lt_of_block d6h)).trans d6h)
                 clear h6
                 obtain ⟨r0, r1, r2, r3, r4, r5, r6, r7⟩ := HCE.out _ hX6
                 have HB6 := Lib.hid hb6; have HR6 := Lib.hid hR6; have HS6 := Lib.hid hS6; have HBS6 := Lib.hid hbs6; have HSP6 := Lib.hid hsp6; have HSAY6 := Lib.hid hsay6; clear hb6 hR6 hS6 hbs6 hsp6 hsay6))
          all_goals
            go_wp2_with fail
            go_meet
            case rel =>
              refine ⟨_, _, us', ar', n', cr', s, rfl, rfl, rfl, rfl, ?_, ?_, HSAY6.out, HBS6.out, play_end hX6 HR6.out HS6.out HSP6.out (by repeat first | exact Touch.refl _ _ | refine touch_alloc ?_ _ | refine touch_set ?_ _ _ _ (by simp)) (by (try simp only [World.size_alloc]); omega) (by (try simp only [World.size_alloc]); omega)⟩
              · constructor <;> (first | go_simp | simp [*, World.cell?_alloc_some, World.cell?_setCell_far])
              · refine ⟨?_, ?_, ?_⟩ <;> (first | go_simp | simp [*, World.cell?_alloc_some, World.cell?_setCell_far])
        case rest =>
          obtain ⟨b11, b12, us', ar', nr', cr', s, rfl, rfl, rfl, rfl, ⟨g0, g1⟩, ⟨l0, l1, l2⟩, hsay6, hbs6, hR6, hS6, hsp6, hb11, hb12, hbc⟩ := hcut
          have hnn : nr' = n' := by
            have h1 := hR6.len
            have h2 := HN4.out.len
            have h3 := congrArg List.length HSAY.out
            have h4 := congrArg List.length hsay6
            rw [List.length_map] at h3 h4
            omega
          subst hnn
          have hlt1 := lt_of_block HBX.out
          have hBc := (hbc.block w3.heap.size hlt1).trans HBX.out
          obtain ⟨p0', p1', f0', f1'⟩ := two_cells hBc
          have hcap' : nr' ≤ mo := by
            have h2 := HN4.out.len
            have h3 := congrArg List.length HSAY.out
            have h4 := HSL.out
            rw [List.length_map] at h3
            omega
          obtain ⟨hPY, hTY⟩ := PlayAt.put (cr := cr') (HN4.out.below hbc) hBc hR6 (HSAY.out.trans hsay6.symm) HPb.out.ne hcap' (by rw [HSAY.out]; exact HST.out)
          obtain ⟨Y, hY⟩ : ∃ Y, Y = (wc.setCell ⟨w3.heap.size, 0, none⟩ (.int .i64 mo)).setCell ⟨w3.heap.size, 1, none⟩ (.slice ar' nr' cr') := ⟨_, rfl⟩
          have hzc := hbc.size
          have hzY := hTY.size
          go_wp2_with fail
          rw [← hY] at hPY hTY hzY ⊢
          have hcY : ∀ b i v, b ≠ w3.heap.size → wc.cell? ⟨b, i, none⟩ = some v → Y.cell? ⟨b, i, none⟩ = some v := fun b i v hne hv => by
            rw [hY, World.cell?_setCell_far _ _ _ _ (fun e => hne e.symm), World.cell?_setCell_far _ _ _ _ (fun e => hne e.symm)]
            exact hv
          have hn12 : b12 ≠ w3.heap.size := by have := HBX.out; omega
          have m0 := hcY _ _ _ hn12 l0
          have m1 := hcY _ _ _ hn12 l1
          have m2 := hcY _ _ _ hn12 l2
          have hn9 : w4.heap.size ≠ w3.heap.size := by omega
          have hXl : w4.heap.size < X.heap.size := by have := HXS.out; omega
          have hC9 := (hTY.block w4.heap.size (by omega) (by simp; omega)).trans ((hbc.block w4.heap.size (by omega)).trans HXC.out)
          obtain ⟨k0, k1, k2, _, _, _⟩ := three_cells hC9
          obtain ⟨x0, x1, _, _⟩ := two_cells hPY.box
          have hcells2 : ∀ w', Below Y.heap.size Y w' → (w'.cell? ⟨w3.heap.size, 1, none⟩ = some (.slice ar' nr' cr') ∧ w'.cell? ⟨b12, 0, none⟩ = some (.int .i64 r.2.2.1) ∧ w'.cell? ⟨b12, 1, none⟩ = some (.int .i64 r.2.2.2.1) ∧ w'.cell? ⟨b12, 2, none⟩ = some (.slice s.a s.len s.cap) ∧ w'.cell? ⟨w4.heap.size, 0, none⟩ = some (.int .i64 r.2.2.1) ∧ w'.cell? ⟨w4.heap.size, 1, none⟩ = some (.int .i64 r.2.2.2.1) ∧ w'.cell? ⟨w4.heap.size, 2, none⟩ = some (.slice a4 len4 cc4)) := fun w' hb => by
            have hq := fun a v (h : Y.cell? a = some v) => (below_cell hb a (by rw [h]; rfl)).trans h
            exact ⟨hq _ _ x1, hq _ _ m0, hq _ _ m1, hq _ _ m2, hq _ _ k0, hq _ _ k1, hq _ _ k2⟩
          have hbY : Below w.heap.size w Y := hTY.below (below_then HBWX.out hbc) (by have := HBWX.out.size; omega) (fun k hk => by simp at hk; omega)
          have hrowY : Row8 Y a4 len4 r.2.2.2.2 := ((HROW.out.below hbc)).touch hTY (fun b off e hn hm => (HROW.out.below hbc).ne_box hBc b off e hn (by simpa using hm))
          have hrowS : Row8 Y s.a s.len s.bs := (hS6.touch hsp6 hTY (fun b hb hm => hb.2.1 (by simpa using hm))).1
          have hsm : ∀ Z, Below Y.heap.size Y Z → Calls Try.prog 17 #[.agg #[.int .i64 r.2.2.1, .int .i64 r.2.2.2.1, .slice a4 len4 cc4], .agg #[.int .i64 r.2.2.1, .int .i64 r.2.2.2.1, .slice s.a s.len s.cap]] Z (RetBox Z (.bool true)) := fun Z hZ => by
            have h1 := rsame_any r.2.2.1 r.2.2.2.1 r.2.2.1 r.2.2.2.1 a4 s.a len4 cc4 s.len s.cap r.2.2.2.2 s.bs Z (hrowY.below hZ) (hrowS.below hZ) hl4 (by have := hS6.2; omega)
            rw [hbs6, decide_eq_true rfl] at h1
            exact h1
          have hle : ∀ Z, Below Y.heap.size Y Z → Calls Try.prog 11 #[.pointer (some ⟨w.heap.size, 0, none⟩)] Z fun e w' => e = .returned (.int .i64 (nr' : Nat)) ∧ Z = w' := fun Z hZ => len_any w.heap.size mo ls' ao' nr' cn' Z (hPY.net.below hZ)
          have HSM := Lib.hid hsm
          have HLE := Lib.hid hle
          have HCY := Lib.hid hcells2
          have HPY := Lib.hid hPY
          have HBY := Lib.hid hbY
          clear hsm hle hcells2 hPY hbY hrowY hrowS hcY hTY hC9 hBc hS6 hsp6 hR6 hbs6 hsay6 hbc hY p0' p1' f0' f1' g0 g1 l0 l1 l2 p0 p1 q0 q1 q2 q3 q4 q5
          have hred : (r.2.1 != r.2.1) = false := bne_self_eq_false _
          go_region_held3 (fun w' => w'.cell? ⟨w3.heap.size, 1, none⟩ = some (.slice ar' nr' cr') ∧ w'.cell? ⟨b12, 0, none⟩ = some (.int .i64 r.2.2.1) ∧ w'.cell? ⟨b12, 1, none⟩ = some (.int .i64 r.2.2.2.1) ∧ w'.cell? ⟨b12, 2, none⟩ = some (.slice s.a s.len s.cap) ∧ w'.cell? ⟨w4.heap.size, 0, none⟩ = some (.int .i64 r.2.2.1) ∧ w'.cell? ⟨w4.heap.size, 1, none⟩ = some (.int .i64 r.2.2.2.1) ∧ w'.cell? ⟨w4.heap.size, 2, none⟩ = some (.slice a4 len4 cc4))
            (first | exact HCY.out _ hY8 | exact HCY.out _ hY7 | exact HCY.out _ (Below.refl _ _).drew | go_keep)
            (first
              | (go_at_call 16; refine (of_any r.2.2.1 r.2.2.2.1 a4 len4 cc4 _).mono ?_; rintro e w7 ⟨rfl, hb7⟩; have hY7 : Below Y.heap.size Y w7 := below_then (by repeat first | exact Below.refl _ _ | refine Below.drew ?_) hb7; clear hb7)
              | (go_at_call 17; refine (HSM.out _ hY7).mono ?_; rintro e w8 ⟨rfl, hb8⟩; have hY8 : Below Y.heap.size Y w8 := below_then hY7 hb8; clear hb8)
              | (go_at_call 11; refine (HLE.out _ hY8).mono ?_; rintro e w9 ⟨rfl, rfl⟩))
          go_wp2_with fail
          go_roundw
          case rel => exact ⟨k + 1, ls', us', ao', ar', nr', cn', cr', by omega, by go_num, HPY.out.below hY8, below_then HBY.out hY8⟩
          case measure => simp [intOf]; omega
      · by_cases hk1 : o.kd < 1
        · go_wp2_with fail
          go_roundw
          case rel => exact ⟨k + 1, ls, us, ao, ar, n, cn, cr, by omega, by go_num, HPb.out, HBWb.out⟩
          case measure => simp [intOf]; omega
        · have hk6 : o.kd > 6 := by omega
          go_wp2_with fail
          go_roundw
          case rel => exact ⟨k + 1, ls, us, ao, ar, n, cn, cr, by omega, by go_num, HPb.out, HBWb.out⟩
          case measure => simp [intOf]; omega
    · obtain ⟨wo, rfl⟩ : ∃ wo, wo = wr := ⟨_, rfl⟩
      have hcap := hP.cap
      have hall := all_apart w.heap.size mo ls ao n cn wo hP.net (by omega) hP.big
      have HALL := Lib.hid hall
      have HP1 := Lib.hid hP
      have HBW := Lib.hid hbw
      clear hall hP hbw
      go_wp2_with fail
      refine HALL.out.mono ?_
      rintro e w5 ⟨vs, av, cv, rfl, hsay, hO, hpt, hb5⟩
      have hL := Left.of_own hO hb5
      have HL := Lib.hid hL
      have HSY := Lib.hid (hsay.trans HP1.out.same)
      have HPT := Lib.hid hpt
      clear hsay hO hpt hb5 hL
      go_wp2_with fail
      go_loopw [89] (fun i wq => ∃ j : Nat, j ≤ n ∧ i = .int .i64 j ∧ Left wo vs av n cv j wq) (fun i _ => n - (intOf i).toNat)
      case atStart => exact ⟨0, by omega, rfl, HL.out⟩
      case round =>
        obtain ⟨j, hj, rfl, hL⟩ := hrel
        have hPr := HP1.out.below hL.low
        by_cases hjl : j < n
        · obtain ⟨v, hv⟩ : ∃ v, vs[j]? = some v := ⟨_, List.getElem?_eq_getElem (by rw [hL.len]; exact hjl)⟩
          obtain ⟨u, hu⟩ : ∃ u, us[j]? = some u := ⟨_, List.getElem?_eq_getElem (by rw [hPr.ref.len]; exact hjl)⟩
          obtain ⟨bv, ov, rfl, v0, v1, v2⟩ := letters_at (RowN.of_own hL.row) hL.len j hjl v hv
          obtain ⟨bu, ou, rfl, u0, u1, u2⟩ := letters_at hPr.ref.row hPr.ref.len j hjl u hu
          obtain ⟨x0, x1, _, _⟩ := two_cells hPr.box
          have hjn : (j : Int) < (n : Int) := by omega
          obtain ⟨wp, hwp⟩ : ∃ wp, wp = wr := ⟨_, rfl⟩
          subst hwp
          have hov := hL.left v (by rw [drop_at hv]; exact List.mem_cons_self ..)
          have hou := (hPr.ref.ok u (List.mem_of_getElem? hu)).1
          have hsm := fun Z (hZ : Below wp.heap.size wp Z) => same_says (says_at HSY.out hv hu) (hov.row.below hZ) (hou.1.below hZ) (by have := hov.cap; omega) (by have := hou.2; omega)
          have hce : ∀ w', Below wp.heap.size wp w' → (w'.cell? ⟨w3.heap.size, 1, none⟩ = some (.slice (some ⟨bu, ou, none⟩) n cr) ∧ w'.cell? ⟨bv, ov + j * 3, none⟩ = some (.int .i64 v.f) ∧ w'.cell? ⟨bv, ov + j * 3 + 1, none⟩ = some (.int .i64 v.t) ∧ w'.cell? ⟨bv, ov + j * 3 + 2, none⟩ = some (.slice v.s.a v.s.len v.s.cap) ∧ w'.cell? ⟨bu, ou + j * 3, none⟩ = some (.int .i64 u.f) ∧ w'.cell? ⟨bu, ou + j * 3 + 1, none⟩ = some (.int .i64 u.t) ∧ w'.cell? ⟨bu, ou + j * 3 + 2, none⟩ = some (.slice u.s.a u.s.len u.s.cap)) := fun w' hb => by
            have hq := fun a v (h : wp.cell? a = some v) => (below_cell hb a (by rw [h]; rfl)).trans h
            exact ⟨hq _ _ x1, hq _ _ v0, hq _ _ v1, hq _ _ v2, hq _ _ u0, hq _ _ u1, hq _ _ u2⟩
          have HSM := Lib.hid hsm
          have HCE := Lib.hid hce
          have HLL := Lib.hid hL
          have HV := Lib.hid hv
          clear hsm hce hL hPr hov hou hv hu
          go_wp2_with fail
          go_region_held3 (fun w' => w'.cell? ⟨w3.heap.size, 1, none⟩ = some (.slice (some ⟨bu, ou, none⟩) n cr) ∧ w'.cell? ⟨bv, ov + j * 3, none⟩ = some (.int .i64 v.f) ∧ w'.cell? ⟨bv, ov + j * 3 + 1, none⟩ = some (.int .i64 v.t) ∧ w'.cell? ⟨bv, ov + j * 3 + 2, none⟩ = some (.slice v.s.a v.s.len v.s.cap) ∧ w'.cell? ⟨bu, ou + j * 3, none⟩ = some (.int .i64 u.f) ∧ w'.cell? ⟨bu, ou + j * 3 + 1, none⟩ = some (.int .i64 u.t) ∧ w'.cell? ⟨bu, ou + j * 3 + 2, none⟩ = some (.slice u.s.a u.s.len u.s.cap))
            (first | exact HCE.out _ hY8 | exact HCE.out _ hY7 | exact HCE.out _ (Below.refl _ _).drew | go_keep)
            (first
              | (go_at_call 16; refine (of_any v.f v.t v.s.a v.s.len v.s.cap _).mono ?_; rintro e w7 ⟨rfl, hb7⟩; have hY7 : Below wp.heap.size wp w7 := below_then (by repeat first | exact Below.refl _ _ | refine Below.drew ?_) hb7; clear hb7)
              | (go_at_call 17; refine (HSM.out _ hY7).mono ?_; rintro e w8 ⟨rfl, hb8⟩; have hY8 : Below wp.heap.size wp w8 := below_then hY7 hb8; clear hb8))
          obtain ⟨y1, y2, y3, y4, y5, y6, y7⟩ := HCE.out _ hY8
          clear x0 x1 v0 v1 v2 u0 u1 u2
          have hL8 := (HLL.out.below hY8).next
          have HL8 := Lib.hid hL8
          clear hL8
          go_wp2_with fail
          go_loopw [110] (fun i wq => ∃ m : Nat, m ≤ v.s.len ∧ i = .int .i64 m ∧ Left wo vs (some ⟨bv, ov, none⟩) n cv (j + 1) wq) (fun i _ => v.s.len - (intOf i).toNat)
          case atStart => exact ⟨0, by omega, rfl, HL8.out⟩
          case round =>
            obtain ⟨m, hm, rfl, hLq⟩ := hrel
            have HLQ := Lib.hid hLq
            by_cases hms : m < v.s.len
            · obtain ⟨bq, hob⟩ := hLq.own v (List.mem_of_getElem? HV.out)
              obtain ⟨g, hga, hbg, hgl⟩ := hob.addr (by omega)
              have hob2 := hob
              rw [hga] at hob2
              obtain ⟨cc, _, _, hcell, hfree⟩ := hob2.at m hms
              obtain ⟨bv', ov', hav, z0, z1, z2⟩ := letters_at (RowN.of_own hLq.row) hLq.len j hjl v HV.out
              injection hav with hav
              injection hav with h1 h2 _
              subst h1 h2
              have hmsi : (m : Int) < (v.s.len : Int) := by omega
              have hslm : v.s.len ≤ 9223372036854775807 := by have h1 := hob.cap.1; have h2 := hob.cap.2; simp only [maxLen] at h2; omega
              rw [hga] at z2
              have HOB := Lib.hid hob2
              have HGA := Lib.hid hga
              clear hLq hob hob2 hga y1 y2 y3 y4 y5 y6 y7 z0 z1
              go_wp2_with fail
              go_roundw
              case rel => exact ⟨m + 1, by omega, by go_num, HLQ.out.set HPT.out HV.out HGA.out HOB.out 99⟩
              case measure => simp [intOf]; omega
            · obtain rfl : m = v.s.len := by omega
              go_wp2_with fail
              go_roundw
              case rel => exact ⟨j + 1, by omega, by go_num, HLQ.out⟩
              case measure => simp [intOf]; omega
        · obtain rfl : j = n := by omega
          obtain ⟨wq, rfl⟩ : ∃ wq, wq = wr := ⟨_, rfl⟩
          have hlow := hL.low
          have hall2 := all_any w.heap.size mo ls ao j cn wq hPr.net (by omega) hPr.big
          have HALL2 := Lib.hid hall2
          have HPR := Lib.hid hPr
          have HLOW := Lib.hid hlow
          clear hall2 hPr hlow hL
          go_wp2_with fail
          refine HALL2.out.mono ?_
          rintro e w6 ⟨xs, ax, cx, rfl, hsay, hO, hb6⟩
          have HO := Lib.hid hO
          have HSX := Lib.hid (hsay.trans HPR.out.same)
          have HP6 := Lib.hid (HPR.out.below hb6)
          have HB6 := Lib.hid (below_then HBW.out (below_then HLOW.out hb6))
          clear hsay hO hb6
          go_wp2_with fail
          go_loopw [126] (fun i wz => ∃ q : Nat, q ≤ j ∧ i = .int .i64 q ∧ Below w6.heap.size w6 wz) (fun i _ => j - (intOf i).toNat)
          case atStart => exact ⟨0, by omega, rfl, Below.refl _ _⟩
          case round =>
            obtain ⟨q, hq, rfl, hbz⟩ := hrel
            have hPz := HP6.out.below hbz
            obtain ⟨p0, p1, _, _⟩ := two_cells hPz.box
            by_cases hql : q < j
            · obtain ⟨v, hv⟩ : ∃ v, xs[q]? = some v := ⟨_, List.getElem?_eq_getElem (by rw [HO.out.len]; exact hql)⟩
              obtain ⟨u, hu⟩ : ∃ u, us[q]? = some u := ⟨_, List.getElem?_eq_getElem (by rw [hPz.ref.len]; exact hql)⟩
              obtain ⟨bv, ov, rfl, v0, v1, v2⟩ := letters_at (RowN.below (RowN.of_own HO.out.row) hbz) HO.out.len q hql v hv
              obtain ⟨bu, ou, rfl, u0, u1, u2⟩ := letters_at hPz.ref.row hPz.ref.len q hql u hu
              have hqn : (q : Int) < (j : Int) := by omega
              obtain ⟨wp, hwp⟩ : ∃ wp, wp = wr := ⟨_, rfl⟩
              subst hwp
              have hov := HO.out.own v (List.mem_of_getElem? hv)
              have hou := (hPz.ref.ok u (List.mem_of_getElem? hu)).1
              have hsm := fun Z (hZ : Below wp.heap.size wp Z) => same_says (says_at HSX.out hv hu) ((hov.row.below hbz).below hZ) (hou.1.below hZ) (by have := hov.cap; omega) (by have := hou.2; omega)
              have hce : ∀ w', Below wp.heap.size wp w' → (w'.cell? ⟨w3.heap.size, 1, none⟩ = some (.slice (some ⟨bu, ou, none⟩) j cr) ∧ w'.cell? ⟨bv, ov + q * 3, none⟩ = some (.int .i64 v.f) ∧ w'.cell? ⟨bv, ov + q * 3 + 1, none⟩ = some (.int .i64 v.t) ∧ w'.cell? ⟨bv, ov + q * 3 + 2, none⟩ = some (.slice v.s.a v.s.len v.s.cap) ∧ w'.cell? ⟨bu, ou + q * 3, none⟩ = some (.int .i64 u.f) ∧ w'.cell? ⟨bu, ou + q * 3 + 1, none⟩ = some (.int .i64 u.t) ∧ w'.cell? ⟨bu, ou + q * 3 + 2, none⟩ = some (.slice u.s.a u.s.len u.s.cap)) := fun w' hb => by
                have hq := fun a v (h : wp.cell? a = some v) => (below_cell hb a (by rw [h]; rfl)).trans h
                exact ⟨hq _ _ p1, hq _ _ v0, hq _ _ v1, hq _ _ v2, hq _ _ u0, hq _ _ u1, hq _ _ u2⟩
              have HSM := Lib.hid hsm
              have HCE := Lib.hid hce
              have HBZ := Lib.hid hbz
              clear hsm hce hPz hov hou hv hu hbz
              go_wp2_with fail
              go_region_held3 (fun w' => w'.cell? ⟨w3.heap.size, 1, none⟩ = some (.slice (some ⟨bu, ou, none⟩) j cr) ∧ w'.cell? ⟨bv, ov + q * 3, none⟩ = some (.int .i64 v.f) ∧ w'.cell? ⟨bv, ov + q * 3 + 1, none⟩ = some (.int .i64 v.t) ∧ w'.cell? ⟨bv, ov + q * 3 + 2, none⟩ = some (.slice v.s.a v.s.len v.s.cap) ∧ w'.cell? ⟨bu, ou + q * 3, none⟩ = some (.int .i64 u.f) ∧ w'.cell? ⟨bu, ou + q * 3 + 1, none⟩ = some (.int .i64 u.t) ∧ w'.cell? ⟨bu, ou + q * 3 + 2, none⟩ = some (.slice u.s.a u.s.len u.s.cap))
                (first | exact HCE.out _ hY8 | exact HCE.out _ hY7 | exact HCE.out _ (Below.refl _ _).drew | go_keep)
                (first
                  | (go_at_call 16; refine (of_any v.f v.t v.s.a v.s.len v.s.cap _).mono ?_; rintro e w7 ⟨rfl, hb7⟩; have hY7 : Below wp.heap.size wp w7 := below_then (by repeat first | exact Below.refl _ _ | refine Below.drew ?_) hb7; clear hb7)
                  | (go_at_call 17; refine (HSM.out _ hY7).mono ?_; rintro e w8 ⟨rfl, hb8⟩; have hY8 : Below wp.heap.size wp w8 := below_then hY7 hb8; clear hb8))
              go_wp2_with fail
              go_roundw
              case rel => exact ⟨q + 1, by omega, by go_num, below_then HBZ.out hY8⟩
              case measure => simp [intOf]; omega
            · go_wp2_with fail
              go_ret
              exact ⟨by simp, below_then HB6.out hbz⟩
end Go.Proofs.Ytnjbhjgihcgefaa
