/- NetMade: the walk. -/
import Derived.Test.YtnjbhjgihcgefaaMadeMath
import Derived.Test.YtnjbhjgihcgefaaOpenOps
import Derived.Test.YtnjbhjgihcgefaaAlive
import Derived.BigQuiet
namespace Go.Proofs.Ytnjbhjgihcgefaa
open Go.RowKit

theorem drop6 (os : List OpL) : ∀ i, (os.flatMap OpL.cells).drop (i * 6) = (os.drop i).flatMap OpL.cells := by
  induction os with
  | nil => intro i; simp
  | cons x r ih =>
    intro i
    cases i with
    | zero => simp
    | succ i =>
      rw [List.drop_succ_cons, ← ih i, List.flatMap_cons, show (i + 1) * 6 = 6 + i * 6 by omega, ← List.drop_drop]
      congr 1
theorem ops_at {w : World} {a : Option Addr} {n : Nat} {os : List OpL} (hr : RowN w a 6 n (os.flatMap OpL.cells)) (hs : os.length = n) (k : Nat) (hk : k < n) (o : OpL) (ho : os[k]? = some o) :
    ∃ b off, a = some ⟨b, off, none⟩ ∧ w.cell? ⟨b, off + k * 6, none⟩ = some (.int .i64 o.kd) ∧ w.cell? ⟨b, off + k * 6 + 1, none⟩ = some (.int .i64 o.i) ∧ w.cell? ⟨b, off + k * 6 + 2, none⟩ = some (.int .i64 o.k) ∧
      w.cell? ⟨b, off + k * 6 + 3, none⟩ = some (.int .i64 o.f) ∧ w.cell? ⟨b, off + k * 6 + 4, none⟩ = some (.int .i64 o.t) ∧ w.cell? ⟨b, off + k * 6 + 5, none⟩ = some (.slice o.s.a o.s.len o.s.cap) := by
  obtain ⟨b, off, ha, hc⟩ := hr.2 (by omega)
  have hcell : ∀ i u, i < 6 → o.cells[i]? = some u → (os.flatMap OpL.cells)[k * 6 + i]? = some u := fun i u hi hu => by
    have h1 : ((os.flatMap OpL.cells).drop (k * 6))[i]? = some u := by
      rw [drop6, List.drop_eq_getElem_cons (show k < os.length by omega), List.flatMap_cons, List.getElem?_append_left (by simp [OpL.cells]; omega)]
      have : os[k]'(by omega) = o := (List.getElem?_eq_some_iff.1 ho).2
      rw [this]
      exact hu
    rwa [List.getElem?_drop] at h1
  exact ⟨b, off, ha, hc _ _ (hcell 0 _ (by omega) rfl), by rw [Nat.add_assoc]; exact hc _ _ (hcell 1 _ (by omega) rfl), by rw [Nat.add_assoc]; exact hc _ _ (hcell 2 _ (by omega) rfl), by rw [Nat.add_assoc]; exact hc _ _ (hcell 3 _ (by omega) rfl), by rw [Nat.add_assoc]; exact hc _ _ (hcell 4 _ (by omega) rfl), by rw [Nat.add_assoc]; exact hc _ _ (hcell 5 _ (by omega) rfl)⟩
theorem six_cells {w : World} {B : Nat} {T : TypeId} {c0 c1 c2 c3 c4 c5 : Value} (h : w.heap[B]? = some (.cells #[c0, c1, c2, c3, c4, c5] T (0, 0))) :
    w.cell? ⟨B, 0, none⟩ = some c0 ∧ w.cell? ⟨B, 1, none⟩ = some c1 ∧ w.cell? ⟨B, 2, none⟩ = some c2 ∧ w.cell? ⟨B, 3, none⟩ = some c3 ∧ w.cell? ⟨B, 4, none⟩ = some c4 ∧ w.cell? ⟨B, 5, none⟩ = some c5 := by
  refine ⟨?_, ?_, ?_, ?_, ?_, ?_⟩ <;> simp [World.cell?, h]

set_option maxRecDepth 100000 in
set_option maxHeartbeats 6400000 in
theorem netMade_walk (a : Option Addr) (len cap : Nat) (os : List OpL) (w : World) (hr : RowN w a 6 len (os.flatMap OpL.cells)) (hol : os.length = len) (hok : ∀ o ∈ os, Sl.ok w o.s) (_hlc : len ≤ cap) (_hcm : cap ≤ maxLen) (_hn : a = none → cap = 0)
    (hbulk : bulkO os ≤ 1048576) :
    Calls Try.prog 5 #[.slice a len cap] w fun e w' => e = .returned (.bool true) ∧ Below w.heap.size w w' := by
  have hlb := bulkO_len os
  have hmo : mostOf 50 = 50 := by decide
  have hlen : len ≤ 1048576 := by omega
  have HMO := Lib.hid hmo
  have HR := Lib.hid hr
  have HOL := Lib.hid hol
  have HOK := Lib.hid hok
  have HBK := Lib.hid hbulk
  clear hr hok hlb hmo hbulk hol
  go_enter Try.func5, Try.ntmps5
  go_wp2_with fail
  refine (new_any 50 _).mono ?_
  rintro e w1 ⟨rfl, hN1, hb1⟩
  rw [HMO.out] at hN1
  have hz1 := hb1.size
  go_wp2_with fail
  refine (alive_any _).mono ?_
  rintro e w2 ⟨rfl, hb2⟩
  have hbw2 : Below w.heap.size w w2 := hb1.trans (hb2.mono hz1)
  have hz2 := hbw2.size
  have HN2 := Lib.hid (hN1.below hb2)
  have HB2 := Lib.hid hbw2
  clear hN1 hb1 hb2 hbw2
  go_wp2_with fail
  go_loopw [4, 22] (fun v i wr => ∃ (k m n : Nat) (us ls : List L3) (ak ao : Option Addr) (ck cn : Nat), k ≤ len ∧ i = .int .i64 k ∧ v = .slice ak m ck ∧ m ≤ k ∧ n ≤ 50 ∧ SentAt wr w w.heap.size us ak m ck ao ∧ Hid (Made (ls.map L3.says) (us.map L3.says)) ∧ NetAt wr w.heap.size 50 ls ao n cn ∧ Below w.heap.size w wr) (fun _ i _ => len - (intOf i).toNat)
  case atStart =>
    refine ⟨0, 0, 0, [], [], _, none, 0, 0, by omega, rfl, rfl, by omega, by omega, ⟨rfl, ?_, (fun u hu => by cases hu), (fun g _ e => by cases e)⟩, (fun x hx => by cases hx), HN2.out.below ((Below.refl _ _).alloc (Nat.le_refl _) _), HB2.out.alloc hz2 _⟩
    exact World.ownsRow_lit (base := w.heap.size) (e := 30) (size := 3) w2 #[] 0 hz2 (by simp [maxLen]) rfl
  case round =>
    obtain ⟨k, m, n, us, ls, ak, ao, ck, cn, hk, rfl, rfl, hm, hn, hS, HM, hN, hbw⟩ := hrel
    have hzw := hbw.size
    by_cases hlt : k < len
    · obtain ⟨o, ho⟩ : ∃ o, os[k]? = some o := ⟨_, List.getElem?_eq_getElem (by rw [HOL.out]; exact hlt)⟩
      have hmem := List.mem_of_getElem? ho
      have hso := HOK.out o hmem
      have hbo := bulkO_mem hmem
      have hbk := HBK.out
      obtain ⟨b, off, rfl, c0, c1, c2, c3, c4, c5⟩ := ops_at (HR.out.below hbw) HOL.out k hlt o ho
      have hkl : (k : Int) < (len : Int) := by omega
      have hbb : Below wr.heap.size wr (wr.alloc (.cells #[.int .i64 o.kd, .int .i64 o.i, .int .i64 o.k, .int .i64 o.f, .int .i64 o.t, .slice o.s.a o.s.len o.s.cap] 43)) := (Below.refl _ _).alloc (Nat.le_refl _) _
      have hSb := hS.below hbb
      have hNb := hN.below hbb
      have hbwb := hbw.alloc hzw (.cells #[.int .i64 o.kd, .int .i64 o.i, .int .i64 o.k, .int .i64 o.f, .int .i64 o.t, .slice o.s.a o.s.len o.s.cap] 43)
      have HS := Lib.hid hS
      have HN := Lib.hid hN
      have HBW := Lib.hid hbw
      have HSb := Lib.hid hSb
      have HNb := Lib.hid hNb
      have HBWb := Lib.hid hbwb
      have HSO := Lib.hid hso
      clear hS hN hbw hSb hNb hbwb hso hmem ho
      by_cases hkd : 1 ≤ o.kd ∧ o.kd ≤ 6
      · have hk1 : ¬ o.kd < 1 := by omega
        have hk6 : ¬ o.kd > 6 := by omega
        have hl48 : o.s.len ≤ 140737488355328 := by omega
        have hbig : ∀ x ∈ ls, x.s.len ≤ 140737488355328 := fun x hx => by
          have h1 := made_len HM.out (B := 1048576) (fun y hy => by
            obtain ⟨u, hu, rfl⟩ := List.mem_map.1 hy
            have := HSb.out.ok u hu
            have h2 := this.1.1.1
            simp only [L3.says]
            omega) x.says (List.mem_map.2 ⟨x, hx, rfl⟩)
          have h2 := (HN.out.own x hx).length
          simp only [L3.says] at h1
          omega
        have hd := does_any w.heap.size 50 ls ao n cn o.kd o.i o.k o.f o.t o.s.a o.s.len o.s.cap o.s.bs _ HNb.out hkd (by omega) ((HSO.out.below HBWb.out).1) (fun e => by have h1 := HSO.out.2.2.2 e; have h2 := HSO.out.2.1; omega) hl48 hbig
        have HD := Lib.hid hd
        have hst := made_step 50 o.kd o.i o.k (o.f, o.t, o.s.bs) HM.out
        have hsl := len_step 50 (xs := ls.map L3.says) o.kd o.i o.k (o.f, o.t, o.s.bs) (by rw [List.length_map, HN.out.len]; exact hn)
        obtain ⟨r, hr⟩ : ∃ r, r = netStep 50 (ls.map L3.says) o.kd o.i o.k (o.f, o.t, o.s.bs) := ⟨_, rfl⟩
        have hsl' : r.1.length ≤ 50 := by rw [hr]; exact hsl
        rw [← hr] at HD hst
        have HST := Lib.hid hst
        have HSL := Lib.hid hsl'
        clear hd hst hsl hr hbig hsl'
        go_wp2_with fail
        refine HD.out.mono ?_
        rintro e w3 ⟨ls', ao', n', cap', a3, len3, cc3, rfl, _, _, hsay, hN3, hs3⟩
        have hS3 := HSb.out.step HNb.out hs3
        have hbw3 := HBWb.out.trans (NStep.below HNb.out hs3)
        have hz3 := hbw3.size
        have hA := (hs3.block wr.heap.size (by rw [World.size_alloc]; omega) (by have := lt_of_block HN.out.cell; omega) (fun e => by rw [own_addr ao 0 0 n cn] at e; have := (HN.out.row.lt _ e).2; omega)).trans (heap_alloc_new wr _)
        obtain ⟨x0, x1, x2, x3, x4, x5⟩ := six_cells hA
        have hn3 : n' ≤ 50 := by have h1 := hN3.len; have h2 := HSL.out; rw [← hsay, List.length_map] at h2; omega
        have HSAY := Lib.hid hsay
        have HN3 := Lib.hid hN3
        have HS3 := Lib.hid hS3
        have HBW3 := Lib.hid hbw3
        clear hsay hN3 hs3 hS3 hbw3 hA
        by_cases h1 : o.kd = 1
        · go_wp2_with (at_builtin; refine wpList_appendL rfl (.tmp 40) (.tmp 43) rfl w.heap.size ak m ck (us.flatMap L3.cells) rfl (HS3.out.below ((Below.refl _ _).alloc (Nat.le_refl _) _)).row (some ⟨w3.heap.size, 0, none⟩) 1 1 (L3.cells ⟨o.f, o.t, o.s⟩) rfl (RowN.newH _ _ _ 3 1 _ _ rfl rfl rfl) (fun h => by cases h) (cells_one3 _) (by omega) (by rw [World.size_alloc]; omega) (m + 1) rfl ?_; intro ao4 cap4 w4 hown4 hg4 hat4)
          go_roundw
          case rel =>
            obtain ⟨e1, e2⟩ := sent_snoc (u := ⟨o.f, o.t, o.s⟩) (HS3.out.below ((Below.refl _ _).alloc (Nat.le_refl _) _)) (HN3.out.below ((Below.refl _ _).alloc (Nat.le_refl _) _)) hg4 hown4 hat4 ⟨HSO.out, (show o.s.len ≤ 1048576 by omega)⟩
            refine ⟨k + 1, m + 1, n', us ++ [⟨o.f, o.t, o.s⟩], ls', ao4, ao', cap4, cap', by omega, by go_num, rfl, by omega, hn3, e1, ?_, e2, (HBW3.out.alloc hz3 _).grown hg4 (by rw [World.size_alloc]; omega) (fun g hg => (HS3.out.row.lt g hg).1)⟩
            have h2 := HST.out
            rw [if_pos h1] at h2
            show Made _ _
            rw [HSAY.out, List.map_append]
            exact h2
          case measure => simp [intOf]; omega
        · go_wp2_with fail
          go_roundw
          case rel =>
            refine ⟨k + 1, m, n', us, ls', ak, ao', ck, cap', by omega, by go_num, rfl, by omega, hn3, HS3.out, ?_, HN3.out, HBW3.out⟩
            have h2 := HST.out
            rw [if_neg h1] at h2
            show Made _ _
            rw [HSAY.out]
            exact h2
          case measure => simp [intOf]; omega
      · by_cases hk1 : o.kd < 1
        · go_wp2_with fail
          go_roundw
          case rel => exact ⟨k + 1, m, n, us, ls, ak, ao, ck, cn, by omega, by go_num, rfl, by omega, hn, HSb.out, HM, HNb.out, HBWb.out⟩
          case measure => simp [intOf]; omega
        · have hk6 : o.kd > 6 := by omega
          go_wp2_with fail
          go_roundw
          case rel => exact ⟨k + 1, m, n, us, ls, ak, ao, ck, cn, by omega, by go_num, rfl, by omega, hn, HSb.out, HM, HNb.out, HBWb.out⟩
          case measure => simp [intOf]; omega
    · obtain ⟨wo, rfl⟩ : ∃ wo, wo = wr := ⟨_, rfl⟩
      have hbig : ∀ x ∈ ls, x.s.len ≤ 140737488355328 := fun x hx => by
        have h1 := made_len HM.out (B := 1048576) (fun y hy => by
          obtain ⟨u, hu, rfl⟩ := List.mem_map.1 hy
          have := hS.ok u hu
          have h2 := this.1.1.1
          simp only [L3.says]
          omega) x.says (List.mem_map.2 ⟨x, hx, rfl⟩)
        have h2 := (hN.own x hx).length
        simp only [L3.says] at h1
        omega
      have hall := all_any w.heap.size 50 ls ao n cn wo hN (by omega) hbig
      have HALL := Lib.hid hall
      have HS := Lib.hid hS
      have HN := Lib.hid hN
      have HBW := Lib.hid hbw
      clear hall hS hN hbw hbig
      go_wp2_with fail
      refine HALL.out.mono ?_
      rintro e w3 ⟨vs, av, cv, rfl, hsay, hO, hb3⟩
      have hz3 := hb3.size
      have hS3 := HS.out.below hb3
      have hbw3 := HBW.out.trans (hb3.mono hzw)
      have hmade : Made (vs.map L3.says) (us.map L3.says) := by rw [hsay]; exact HM.out
      have HMD := Lib.hid hmade
      have HO := Lib.hid hO
      have HS3 := Lib.hid hS3
      have HB3 := Lib.hid hbw3
      have hz3' := hbw3.size
      clear hsay hO hb3 hS3 hbw3 hmade
      go_wp2_with fail
      go_loopw [49] (fun i wr => ∃ (j : Nat), j ≤ n ∧ i = .int .i64 j ∧ Below w3.heap.size w3 wr) (fun i _ => n - (intOf i).toNat)
      case atStart => exact ⟨0, by omega, rfl, Below.refl _ _⟩
      case round =>
        obtain ⟨j, hj, rfl, hbr⟩ := hrel
        have hzr := hbr.size
        by_cases hjl : j < n
        · obtain ⟨v, hv⟩ : ∃ v, vs[j]? = some v := ⟨_, List.getElem?_eq_getElem (by rw [HO.out.len]; exact hjl)⟩
          obtain ⟨bv, ov, rfl, v0, v1, v2⟩ := letters_at (RowN.below (RowN.of_own HO.out.row) hbr) HO.out.len j hjl v hv
          have hjn : (j : Int) < (n : Int) := by omega
          have hvm := List.mem_of_getElem? hv
          have hmv := HMD.out v.says (List.mem_map.2 ⟨v, hvm, rfl⟩)
          have hvo := HO.out.own v hvm
          have HBR := Lib.hid hbr
          have HMV := Lib.hid hmv
          have HVO := Lib.hid hvo
          obtain ⟨wp, rfl⟩ : ∃ wp, wp = wr := ⟨_, rfl⟩
          clear hbr hmv hvo hv hvm
          go_wp2_with fail
          have hX : Below wp.heap.size wp (wp.alloc (.cells #[.int .i64 v.f, .int .i64 v.t, .slice v.s.a v.s.len v.s.cap] 30)) := (Below.refl _ _).alloc (Nat.le_refl _) _
          have hXc := heap_alloc_new wp (.cells #[.int .i64 v.f, .int .i64 v.t, .slice v.s.a v.s.len v.s.cap] 30)
          have hXs : (wp.alloc (.cells #[.int .i64 v.f, .int .i64 v.t, .slice v.s.a v.s.len v.s.cap] 30)).heap.size = wp.heap.size + 1 := World.size_alloc ..
          obtain ⟨X, hXe⟩ : ∃ X, X = wp.alloc (.cells #[.int .i64 v.f, .int .i64 v.t, .slice v.s.a v.s.len v.s.cap] 30) := ⟨_, rfl⟩
          rw [← hXe] at hX hXc hXs ⊢
          have HX := Lib.hid hX
          have HXC := Lib.hid hXc
          have HXS := Lib.hid hXs
          clear hX hXc hXs hXe
          go_loopw [9, 55] (fun f i wr => ∃ (q : Nat) (fd : Bool), q ≤ m ∧ i = .int .i64 q ∧ f = .bool fd ∧ Hid (fd = true ∨ ∃ y ∈ (us.drop q).map L3.says, begOf v.says y) ∧ Below X.heap.size X wr) (fun _ i _ => m - (intOf i).toNat)
          case atStart => exact ⟨0, false, by omega, rfl, rfl, Or.inr HMV.out, Below.refl _ _⟩
          case round =>
            obtain ⟨q, fd, hq, rfl, rfl, HF, hbi⟩ := hrel
            have hzi := hbi.size
            by_cases hqm : q < m
            · obtain ⟨u, hu⟩ : ∃ u, us[q]? = some u := ⟨_, List.getElem?_eq_getElem (by rw [HS3.out.len]; exact hqm)⟩
              have hbx : Below w3.heap.size w3 wr := HBR.out.trans ((HX.out.trans (hbi.mono (by rw [HXS.out]; omega))).mono hzr)
              obtain ⟨bu, ou, rfl, u0, u1, u2⟩ := letters_at (RowN.below (RowN.of_own HS3.out.row) hbx) HS3.out.len q hqm u hu
              have hqi : (q : Int) < (m : Int) := by omega
              have huo := HS3.out.ok u (List.mem_of_getElem? hu)
              have hdr : us.drop q = u :: us.drop (q + 1) := by
                obtain ⟨hl1, h2⟩ := List.getElem?_eq_some_iff.1 hu
                rw [List.drop_eq_getElem_cons hl1, h2]
              have HDR := Lib.hid hdr
              have hV := (hbi.block wp.heap.size (by rw [HXS.out]; omega)).trans HXC.out
              have hY := heap_alloc_old wr (.cells #[.int .i64 u.f, .int .i64 u.t, .slice u.s.a u.s.len u.s.cap] 30) (lt_of_block hV)
              obtain ⟨x0, x1, x2, _, _, _⟩ := three_cells (hY.trans hV)
              obtain ⟨y0, y1, y2, _, _, _⟩ := three_cells (heap_alloc_new wr (.cells #[.int .i64 u.f, .int .i64 u.t, .slice u.s.a u.s.len u.s.cap] 30))
              have hbY : Below X.heap.size X (wr.alloc (.cells #[.int .i64 u.f, .int .i64 u.t, .slice u.s.a u.s.len u.s.cap] 30)) := hbi.alloc hzi _
              have HBY := Lib.hid hbY
              have HUO := Lib.hid huo
              have HHU := Lib.hid hu
              clear hdr hV hY hbY huo hu hbi hbx
              cases fd with
              | true =>
                go_wp2_with fail
                go_quiet (fail)
                go_wp2_with fail
                go_roundw
                case rel => exact ⟨q + 1, true, by omega, by go_num, rfl, Or.inl rfl, below_drewN HBY.out _⟩
                case measure => simp [intOf]; omega
              | false =>
                have hrest : ¬ begOf v.says u.says → (false = true ∨ ∃ y ∈ (us.drop (q + 1)).map L3.says, begOf v.says y) := fun hnb => by
                  rcases HF.out with h | ⟨y, hy, hb⟩
                  · cases h
                  · rw [HDR.out, List.map_cons] at hy
                    rcases List.mem_cons.1 hy with rfl | hy
                    · exact absurd hb hnb
                    · exact Or.inr ⟨y, hy, hb⟩
                have HREST := Lib.hid hrest
                clear hrest HF
                have hvl := HVO.out.length
                have hul := HUO.out.1.1.1
                go_wp2_with fail
                obtain ⟨Y, hY⟩ : ∃ Y, Y = wr.alloc (.cells #[.int .i64 u.f, .int .i64 u.t, .slice u.s.a u.s.len u.s.cap] 30) := ⟨_, rfl⟩
                rw [← hY] at x0 x1 x2 y0 y1 y2 HBY ⊢
                clear hY
                by_cases hf : u.f = v.f
                · by_cases ht : u.t = v.t
                  · by_cases hl : v.s.len ≤ u.s.len
                    · have hli : (v.s.len : Int) ≤ (u.s.len : Int) := by omega
                      have hlc : (v.s.len : Int) ≤ (u.s.cap : Int) := by have := HUO.out.1.2.1; omega
                      have hsm : ∀ Z : World, Below X.heap.size X Z → Calls Try.prog 10 #[.slice v.s.a v.s.len v.s.cap, .slice u.s.a v.s.len u.s.cap] Z (RetQuiet Z (.bool (decide (v.s.bs = u.s.bs.take v.s.len)))) := fun Z hZ => by
                        have hz : Below w3.heap.size w3 Z := HBR.out.trans ((HX.out.trans (hZ.mono (by rw [HXS.out]; omega))).mono hzr)
                        refine same_any v.s.a u.s.a v.s.len v.s.len v.s.cap u.s.cap v.s.bs (u.s.bs.take v.s.len) Z (HVO.out.row.below hz) ((((HUO.out.1.below HB3.out).1).below hz).take v.s.len hl) (by have := HVO.out.cap; omega) (by have := HVO.out.cap; omega)
                      have HSM := Lib.hid hsm
                      have d1 : decide (u.f = v.f) = true := decide_eq_true hf
                      have d2 : decide (u.t = v.t) = true := decide_eq_true ht
                      have d3 : decide ((v.s.len : Int) ≤ (u.s.len : Int)) = true := decide_eq_true hli
                      clear hsm
                      go_quiet ((go_at_call 10; exact Calls.quiet_of (HSM.out _ (below_drewN HBY.out _))))
                      go_wp2_with fail
                      go_roundw
                      case rel =>
                        refine ⟨q + 1, _, by omega, by go_num, rfl, ?_, below_drewN HBY.out _⟩
                        by_cases hb : v.s.bs = u.s.bs.take v.s.len
                        · exact Or.inl (decide_eq_true hb)
                        · refine Or.inr ((HREST.out (fun hbg => ?_)).resolve_left (by decide))
                          obtain ⟨_, _, t, h3⟩ := hbg
                          refine hb ?_
                          simp only [L3.says] at h3
                          rw [h3, ← hvl, List.take_left]
                      case measure => simp [intOf]; omega
                    · have d1 : decide (u.f = v.f) = true := decide_eq_true hf
                      have d2 : decide (u.t = v.t) = true := decide_eq_true ht
                      have d3 : decide ((v.s.len : Int) ≤ (u.s.len : Int)) = false := decide_eq_false (by omega)
                      go_quiet (fail)
                      go_wp2_with fail
                      go_roundw
                      case rel =>
                        refine ⟨q + 1, false, by omega, by go_num, rfl, HREST.out (fun hbg => hl ?_), below_drewN HBY.out _⟩
                        obtain ⟨_, _, t, h3⟩ := hbg
                        have h4 := congrArg List.length h3
                        simp only [L3.says, List.length_append] at h4
                        omega
                      case measure => simp [intOf]; omega
                  · have d1 : decide (u.f = v.f) = true := decide_eq_true hf
                    have d2 : (u.t == v.t) = false := beq_eq_false_iff_ne.2 ht
                    go_quiet (fail)
                    go_wp2_with fail
                    go_roundw
                    case rel => exact ⟨q + 1, false, by omega, by go_num, rfl, HREST.out (fun hbg => ht hbg.2.1.symm), below_drewN HBY.out _⟩
                    case measure => simp [intOf]; omega
                · have d1 : (u.f == v.f) = false := beq_eq_false_iff_ne.2 hf
                  go_quiet (fail)
                  go_wp2_with fail
                  go_roundw
                  case rel => exact ⟨q + 1, false, by omega, by go_num, rfl, HREST.out (fun hbg => hf hbg.1.symm), below_drewN HBY.out _⟩
                  case measure => simp [intOf]; omega
            · have hfd : fd = true := by
                rcases HF.out with h | ⟨y, hy, _⟩
                · exact h
                · rw [List.drop_of_length_le (by rw [HS3.out.len]; omega)] at hy
                  cases hy
              subst hfd
              go_wp2_with fail
              go_roundw
              case rel => exact ⟨j + 1, by omega, by go_num, HBR.out.trans ((HX.out.trans (hbi.mono (by rw [HXS.out]; omega))).mono hzr)⟩
              case measure => simp [intOf]; omega
        · go_wp2_with fail
          go_ret
          exact ⟨rfl, HB3.out.trans (hbr.mono hz3')⟩
end Go.Proofs.Ytnjbhjgihcgefaa
