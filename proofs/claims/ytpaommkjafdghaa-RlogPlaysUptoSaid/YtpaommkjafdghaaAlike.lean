/- The law's alike. -/
import Derived.Test.YtpaommkjafdghaaRm7
namespace Go.Proofs.Ytpaommkjafdghaa
open Go.RowKit

set_option maxRecDepth 100000 in
set_option maxHeartbeats 16000000 in
theorem alike_any (base N : Nat) (ix tm : Int) (c : Cf) (es : List En) (ae : Option Addr) (n cap : Nat) (c2 : Cf) (a2 : Option Addr) (cap2 : Nat) (es2 : List En) (at' most : Int) (w : World) (hL : LogAt w base N ix tm c es ae n cap) (hS : Sound ix tm es) (hA : AllR es) (hcs : c.says.1.length ≤ 1048576 ∧ c.says.2.length ≤ 1048576)
    (h2 : EnR w es2 a2 n) (hok : ∀ u ∈ es2, Sl.ok w u.s) (hc2 : c2.ok w) (hsay : es2.map En.says = es.map En.says) (hcc : c2.says = c.says) :
    Calls Try.prog 28 #[.pointer (some ⟨N, 0, none⟩), .agg #[.int .i64 ix, .int .i64 tm, .slice c2.v.a c2.v.len c2.v.cap, .slice c2.l.a c2.l.len c2.l.cap, .slice a2 n cap2], .int .i64 at', .int .i64 most] w (RetBox w (.bool true)) := by
  have hn : n ≤ 1099511627776 := by have := hS.few hA; rw [hL.len] at this; exact this
  have hcn : c.v.len ≤ 1000000000000 ∧ c.l.len ≤ 1000000000000 := by
    have h1 := hL.vo.len
    have h2 := hL.le.len
    simp only [Cf.says] at hcs
    omega
  have hA2 := hA.says hsay
  have hS2 := hS.says hsay
  have hT : CfP (fun _ => True) c2 := ⟨fun _ _ _ _ => trivial, fun _ _ _ _ => trivial⟩
  obtain ⟨X, hX⟩ : ∃ X, X = w.alloc (.cells #[.int .i64 ix, .int .i64 tm, .slice c2.v.a c2.v.len c2.v.cap, .slice c2.l.a c2.l.len c2.l.cap, .slice a2 n cap2] 53) := ⟨_, rfl⟩
  have hXb : Below w.heap.size w X := hX ▸ below_alloc (Below.refl _ _) _
  have hbx := five_at hX rfl
  have la1 := fun Z (hZ : Below X.heap.size X Z) => last_any _ N ix tm c es ae n cap Z (hL.below (below_then hXb hZ)) (by omega)
  have la2 := fun Z (hZ : Below X.heap.size X Z) => rlast_any ix tm c2 a2 n cap2 es2 Z (h2.below (below_then hXb hZ)) (by omega)
  rw [last_says hsay] at la2
  have ba1 := fun Z (hZ : Below X.heap.size X Z) => base_any _ N ix tm c es ae n cap Z (hL.below (below_then hXb hZ))
  have cf1 := fun Z (hZ : Below X.heap.size X Z) => Conf_any _ N ix tm c es ae n cap Z (hL.below (below_then hXb hZ)) (by omega) hcn
  have cf2 := fun i Z (hZ : Below X.heap.size X Z) => rconfAt_any (fun _ => True) ix tm c2 a2 n cap2 es2 i Z (h2.below (below_then hXb hZ)) (fun u hu => (hok u hu).below (below_then hXb hZ)) (hc2.below (below_then hXb hZ)) hT (fun _ _ => trivial) hA2 hn
  have cf2l := cf2 (lastOf ix tm es).1
  have cf2a := cf2 at'
  rw [conf_says hsay, hcc] at cf2l cf2a
  have tm1 := fun Z (hZ : Below X.heap.size X Z) => term_any _ N ix tm c es ae n cap at' Z (hL.below (below_then hXb hZ)) hS (by omega)
  have tm2 := fun Z (hZ : Below X.heap.size X Z) => rterm_any ix tm c2 a2 n cap2 es2 at' Z (h2.below (below_then hXb hZ)) hS2 (by omega)
  rw [term_says hsay] at tm2
  have ca1 := fun Z (hZ : Below X.heap.size X Z) => ConfAt_any _ N ix tm c es ae n cap at' Z (hL.below (below_then hXb hZ)) (by omega) hcn
  have en1 := fun Z (hZ : Below X.heap.size X Z) => entries_any _ N ix tm c es ae n cap at' most Z (hL.below (below_then hXb hZ)) hS (by omega) (hA.small hL)
  have en2 := fun Z (hZ : Below X.heap.size X Z) => rfrom_any ix tm c2 a2 n cap2 es2 at' most Z (h2.below (below_then hXb hZ)) hS2 hn
  have hsays := entries_says hsay ix at' most
  have ha1 := fun t Z (hZ : Below X.heap.size X Z) => has_any _ N ix tm c es ae n cap at' t Z (hL.below (below_then hXb hZ)) hS (by omega)
  have ha2 := fun t Z (hZ : Below X.heap.size X Z) => rhas_any ix tm c2 a2 n cap2 es2 at' t Z (h2.below (below_then hXb hZ)) hS2 (by omega)
  have hhs : ∀ t, hasOf ix tm es2 at' t = hasOf ix tm es at' t := fun t => by unfold hasOf; rw [term_says hsay]
  have nw1 := fun t Z (hZ : Below X.heap.size X Z) => newer_any _ N ix tm c es ae n cap at' t Z (hL.below (below_then hXb hZ)) (by omega)
  have nw2 := fun t Z (hZ : Below X.heap.size X Z) => rnewer_any ix tm c2 a2 n cap2 es2 at' t Z (h2.below (below_then hXb hZ)) (by omega)
  rw [last_says hsay] at nw2
  have hsb := conf_small ix c.says es (lastOf ix tm es).1 1048576 hcs (by omega)
  have hsc := conf_small ix c.says es at' 1048576 hcs (by omega)
  obtain ⟨p, hp⟩ : ∃ p, p = lastOf ix tm es := ⟨_, rfl⟩
  rw [← hp] at la1 la2 cf1 cf2l nw1 nw2 hsb
  obtain ⟨li, lt⟩ := p
  simp only at la1 la2 cf1 cf2l hsb
  obtain ⟨⟨Q, x2⟩, hQ⟩ : ∃ x, x = confAtOf ix c.says es li := ⟨_, rfl⟩
  rw [← hQ] at cf1 cf2l hsb
  obtain ⟨⟨Q', x3⟩, hQ'⟩ : ∃ x, x = confAtOf ix c.says es at' := ⟨_, rfl⟩
  rw [← hQ'] at ca1 cf2a hsc
  obtain ⟨⟨tv, tb⟩, htv⟩ : ∃ x, x = termOf ix tm es at' := ⟨_, rfl⟩
  rw [← htv] at tm1 tm2
  obtain ⟨us1, hus1⟩ : ∃ x, x = entriesOf ix es at' most := ⟨_, rfl⟩
  rw [← hus1] at en1 hsays
  obtain ⟨us2, hus2⟩ : ∃ x, x = entriesOf ix es2 at' most := ⟨_, rfl⟩
  have hum : ∀ u ∈ us2, u ∈ es2 := fun u hu => by
    rw [hus2, entries_part] at hu
    exact List.mem_of_mem_drop (List.mem_of_mem_take hu)
  rw [← hus2] at en2 hsays
  have hb2 := ha2 lt
  have hb1 := ha1 lt
  rw [hhs] at hb2
  obtain ⟨hb, hhb⟩ : ∃ x, x = hasOf ix tm es at' lt := ⟨_, rfl⟩
  rw [← hhb] at hb1 hb2
  have nb1 := nw1 lt
  have nb2 := nw2 lt
  obtain ⟨nb, hnb⟩ : ∃ x, x = newerOf (li, lt) at' lt := ⟨_, rfl⟩
  rw [← hnb] at nb1 nb2
  simp only at cf1 cf2l cf2a hsb hsc ca1 tm1 tm2
  have LA1 := Lib.hid la1
  have LA2 := Lib.hid la2
  have BA1 := Lib.hid ba1
  have CF1 := Lib.hid cf1
  have CF2L := Lib.hid cf2l
  have CF2A := Lib.hid cf2a
  have CA1 := Lib.hid ca1
  have TM1 := Lib.hid tm1
  have TM2 := Lib.hid tm2
  have EN1 := Lib.hid en1
  have EN2 := Lib.hid en2
  have HA1 := Lib.hid hb1
  have HA2 := Lib.hid hb2
  have NW1 := Lib.hid nb1
  have NW2 := Lib.hid nb2
  have HSAYS := Lib.hid hsays
  have HSB := Lib.hid hsb
  have HSC := Lib.hid hsc
  have HX := Lib.hid hX
  have HXB := Lib.hid hXb
  have HBX := Lib.hid hbx
  have HROK := Lib.hid (fun u (hu : u ∈ us2) Z (hZ : Below X.heap.size X Z) => (hok u (hum u hu)).below (below_then hXb hZ))
  clear la1 la2 ba1 cf1 cf2 cf2l cf2a ca1 tm1 tm2 en1 en2 ha1 ha2 hb1 hb2 nw1 nw2 nb1 nb2 hsays hsb hsc hX hXb hbx hp hQ hQ' htv hus1 hus2 hhb hnb hL hS hA hcs h2 hok hc2 hsay hcc hcn hA2 hS2 hT hhs hum
  go_enter Try.func28, Try.ntmps28
  go_wp2_with fail
  rw [← HX.out]
  refine (LA1.out _ (Below.refl _ _)).mono ?_
  rintro e w3 ⟨rfl, hb3⟩
  obtain ⟨⟨b0, b1, b2, b3, b4⟩, _⟩ := five_cells (HBX.out _ hb3)
  have HB3 := Lib.hid hb3
  clear hb3
  go_wp2_with fail
  refine (LA2.out _ HB3.out).mono ?_
  rintro e w4 ⟨rfl, hb4⟩
  have HB4 := Lib.hid (below_then HB3.out hb4)
  clear hb4 b0 b1 b2 b3 b4
  go_wp2_with fail
  refine (BA1.out _ HB4.out).mono ?_
  rintro e w5 ⟨rfl, hb5⟩
  have HB5 := Lib.hid (below_then HB4.out hb5)
  clear hb5
  go_wp2_with fail
  refine (CF1.out _ HB5.out).mono ?_
  rintro e w6 ⟨v1, rfl, hc⟩
  obtain ⟨d1, rfl, hd1, ov1, ol1, hb6⟩ := hc.own
  clear hc
  obtain ⟨A1, hA1⟩ : ∃ A1, A1 = w6.alloc (.cells #[.slice d1.v.a d1.v.len d1.v.cap, .slice d1.l.a d1.l.len d1.l.cap] 27) := ⟨_, rfl⟩
  have hb6A : Below w6.heap.size w6 A1 := hA1 ▸ below_alloc (Below.refl _ _) _
  have HBA1 := Lib.hid (below_then (below_then HB5.out hb6) hb6A)
  have HK1 := Lib.hid (show A1.heap[w6.heap.size]? = some (.cells #[.slice d1.v.a d1.v.len d1.v.cap, .slice d1.l.a d1.l.len d1.l.cap] 27 (0, 0)) from hA1 ▸ heap_alloc_new w6 _)
  have HD1 := Lib.hid hd1
  have HC1 := Lib.hid ((Cf.ok_of_own ov1 ol1).below hb6A)
  have HA1X := Lib.hid hA1
  have hq := fun o => (five_cells (show (w6.alloc o).heap[w.heap.size]? = _ from alloc_far (HBX.out _ (below_then HB5.out hb6)) (lt_of_block (HBX.out _ (below_then HB5.out hb6))))).1
  have q0 := fun o => (hq o).1
  have q1 := fun o => (hq o).2.1
  have q2 := fun o => (hq o).2.2.1
  have q3 := fun o => (hq o).2.2.2.1
  have q4 := fun o => (hq o).2.2.2.2
  clear hb6 hb6A hd1 ov1 ol1 hA1 hq
  go_wp2_with fail
  rw [← HA1X.out]
  refine (CF2L.out _ HBA1.out).mono ?_
  rintro e w7 ⟨d2, rfl, hd2, hok2, _, hb7⟩
  clear q0 q1 q2 q3 q4
  obtain ⟨A2, hA2⟩ : ∃ A2, A2 = w7.alloc (.cells #[.slice d2.v.a d2.v.len d2.v.cap, .slice d2.l.a d2.l.len d2.l.cap] 27) := ⟨_, rfl⟩
  have hb7A : Below w7.heap.size w7 A2 := hA2 ▸ below_alloc (Below.refl _ _) _
  have hbA2 := below_then (below_then HBA1.out hb7) hb7A
  obtain ⟨⟨b0, b1, b2, b3, b4⟩, _⟩ := five_cells (HBX.out _ hbA2)
  have hk1 : A2.heap[w6.heap.size]? = _ := ((below_then hb7 hb7A).block _ (lt_of_block HK1.out)).trans HK1.out
  have hk2 : A2.heap[w7.heap.size]? = some (.cells #[.slice d2.v.a d2.v.len d2.v.cap, .slice d2.l.a d2.l.len d2.l.cap] 27 (0, 0)) := hA2 ▸ heap_alloc_new w7 _
  obtain ⟨z0, z1, _, _⟩ := two_cells hk1
  obtain ⟨z2, z3, _, _⟩ := two_cells hk2
  have hsm12 := confSame_any d1 d2 A2 (HC1.out.below (below_then hb7 hb7A)) (hok2.below hb7A) (by
    have h1 := HC1.out.1.1.1
    have h2 := HC1.out.2.1.1
    rw [cellsZ_len] at h1 h2
    have h3 := HSB.out
    rw [← HD1.out] at h3
    simp only [Cf.says] at h3
    omega)
  rw [decide_eq_true (HD1.out.trans hd2.symm)] at hsm12
  have HSM12 := Lib.hid hsm12
  have HBA2 := Lib.hid hbA2
  have HA2X := Lib.hid hA2
  clear hb7 hb7A hbA2 hk1 hk2 hsm12 hA2 hd2 hok2
  simp only
  rw [HA2X.out] at b0 b1 b2 b3 b4 z0 z1 z2 z3
  go_wp2_with fail
  rw [← HA2X.out]
  refine HSM12.out.mono ?_
  rintro e w8 ⟨rfl, hb8⟩
  have HB8 := Lib.hid (below_then HBA2.out hb8)
  clear hb8 b0 b1 b2 b3 b4 z0 z1 z2 z3
  go_wp2_with fail
  refine (TM1.out _ HB8.out).mono ?_
  rintro e w9 ⟨rfl, hb9⟩
  have HB9 := Lib.hid (below_then HB8.out hb9)
  obtain ⟨⟨b0, b1, b2, b3, b4⟩, _⟩ := five_cells (HBX.out _ HB9.out)
  clear hb9
  go_wp2_with fail
  refine (TM2.out _ HB9.out).mono ?_
  rintro e w10 ⟨rfl, hb10⟩
  clear b0 b1 b2 b3 b4
  have HB10 := Lib.hid (below_then HB9.out hb10)
  obtain ⟨⟨b0, b1, b2, b3, b4⟩, _⟩ := five_cells (HBX.out _ HB10.out)
  clear hb10
  go_wp2_with fail
  refine (CF2A.out _ HB10.out).mono ?_
  rintro e w11 ⟨d3, rfl, hd3, hok3, _, hb11⟩
  clear b0 b1 b2 b3 b4
  obtain ⟨A3, hA3⟩ : ∃ A3, A3 = w11.alloc (.cells #[.slice d3.v.a d3.v.len d3.v.cap, .slice d3.l.a d3.l.len d3.l.cap] 27) := ⟨_, rfl⟩
  have hb11A : Below w11.heap.size w11 A3 := hA3 ▸ below_alloc (Below.refl _ _) _
  have hbA3 := below_then (below_then HB10.out hb11) hb11A
  have hk3 : A3.heap[w11.heap.size]? = some (.cells #[.slice d3.v.a d3.v.len d3.v.cap, .slice d3.l.a d3.l.len d3.l.cap] 27 (0, 0)) := hA3 ▸ heap_alloc_new w11 _
  have hcc3 := hok3.below hb11A
  have hkeep : ∀ Z, Below A3.heap.size A3 Z → (Z.cell? ⟨w.heap.size, 0, none⟩ = some (.int .i64 ix) ∧ Z.cell? ⟨w.heap.size, 1, none⟩ = some (.int .i64 tm) ∧ Z.cell? ⟨w.heap.size, 2, none⟩ = some (.slice c2.v.a c2.v.len c2.v.cap) ∧ Z.cell? ⟨w.heap.size, 3, none⟩ = some (.slice c2.l.a c2.l.len c2.l.cap) ∧ Z.cell? ⟨w.heap.size, 4, none⟩ = some (.slice a2 n cap2) ∧ Z.cell? ⟨w11.heap.size, 0, none⟩ = some (.slice d3.v.a d3.v.len d3.v.cap) ∧ Z.cell? ⟨w11.heap.size, 1, none⟩ = some (.slice d3.l.a d3.l.len d3.l.cap)) := fun Z hZ => by
    obtain ⟨⟨b0, b1, b2, b3, b4⟩, _⟩ := five_cells (HBX.out _ (below_then hbA3 hZ))
    obtain ⟨z0, z1, _, _⟩ := two_cells ((hZ.block _ (lt_of_block hk3)).trans hk3)
    exact ⟨b0, b1, b2, b3, b4, z0, z1⟩
  have hca := fun Z (hZ : Below A3.heap.size A3 Z) => CA1.out Z (below_then hbA3 hZ)
  have hsm := fun (d4 : Cf) (W Z : World) (hd4 : d4.says = Q') (hZ : Below A3.heap.size A3 Z) (h4 : d4.ok Z) => confSame_any d4 d3 Z h4 (hcc3.below hZ) (by
    have h1 := h4.1.1.1
    have h2 := h4.2.1.1
    rw [cellsZ_len] at h1 h2
    have h3 := HSC.out
    rw [← hd4] at h3
    simp only [Cf.says] at h3
    omega)
  have hen1 := fun Z (hZ : Below A3.heap.size A3 Z) => EN1.out Z (below_then hbA3 hZ)
  have hen2 := fun Z (hZ : Below A3.heap.size A3 Z) => EN2.out Z (below_then hbA3 hZ)
  have hha1 := fun Z (hZ : Below A3.heap.size A3 Z) => HA1.out Z (below_then hbA3 hZ)
  have hha2 := fun Z (hZ : Below A3.heap.size A3 Z) => HA2.out Z (below_then hbA3 hZ)
  have hnw1 := fun Z (hZ : Below A3.heap.size A3 Z) => NW1.out Z (below_then hbA3 hZ)
  have hnw2 := fun Z (hZ : Below A3.heap.size A3 Z) => NW2.out Z (below_then hbA3 hZ)
  have hrk := fun u hu Z (hZ : Below A3.heap.size A3 Z) => HROK.out u hu Z (below_then hbA3 hZ)
  have HKEEP := Lib.hid hkeep
  have HCA := Lib.hid hca
  have HSM := Lib.hid hsm
  have HEN1 := Lib.hid hen1
  have HEN2 := Lib.hid hen2
  have HHA1 := Lib.hid hha1
  have HHA2 := Lib.hid hha2
  have HNW1 := Lib.hid hnw1
  have HNW2 := Lib.hid hnw2
  have HRK := Lib.hid hrk
  have HD3 := Lib.hid hd3
  have HA3X := Lib.hid hA3
  have HBA3 := Lib.hid (below_then HXB.out hbA3)
  clear hb11 hb11A hbA3 hk3 hcc3 hkeep hca hsm hen1 hen2 hha1 hha2 hnw1 hnw2 hrk hd3 hok3 hA3
  clear LA1 LA2 BA1 CF1 CF2L CF2A CA1 TM1 TM2 EN1 EN2 HA1 HA2 NW1 NW2 HROK HSB HX HXB HBX HB3 HB4 HB5 HBA1 HK1 HD1 HC1 HA1X HSM12 HBA2 HA2X HB8 HB9 HB10
  simp only
  go_wp2_with fail
  rw [← HA3X.out]
  go_region_held3 (fun w' => (w'.cell? ⟨w.heap.size, 0, none⟩ = some (.int .i64 ix) ∧ w'.cell? ⟨w.heap.size, 1, none⟩ = some (.int .i64 tm) ∧ w'.cell? ⟨w.heap.size, 2, none⟩ = some (.slice c2.v.a c2.v.len c2.v.cap) ∧ w'.cell? ⟨w.heap.size, 3, none⟩ = some (.slice c2.l.a c2.l.len c2.l.cap) ∧ w'.cell? ⟨w.heap.size, 4, none⟩ = some (.slice a2 n cap2) ∧ w'.cell? ⟨w11.heap.size, 0, none⟩ = some (.slice d3.v.a d3.v.len d3.v.cap) ∧ w'.cell? ⟨w11.heap.size, 1, none⟩ = some (.slice d3.l.a d3.l.len d3.l.cap)))
    (first | exact HKEEP.out _ HY9.out | exact HKEEP.out _ HY8.out | exact HKEEP.out _ HY7.out | exact HKEEP.out _ HY6.out | exact HKEEP.out _ HY5.out | exact HKEEP.out _ HY4.out | exact HKEEP.out _ HY3.out | exact HKEEP.out _ HY2.out | exact HKEEP.out _ HY1.out | exact HKEEP.out _ (Below.refl _ _).drew | exact HKEEP.out _ (Below.refl _ _) | go_keep)
    (first
      | (go_at_call 16; refine (HCA.out _ (Below.refl _ _).drew).mono ?_; rintro e y1 ⟨d4, rfl, hd4, ov4, ol4, hb1⟩
         have HY1 := Lib.hid (below_then (Below.refl _ _).drew hb1 : Below A3.heap.size A3 y1); have HK4 := Lib.hid (Cf.ok_of_own ov4 ol4); have HD4 := Lib.hid hd4; clear hb1 ov4 ol4 hd4)
      | (go_at_call 15; have hsm := HSM.out d4 A3 _ HD4.out HY1.out HK4.out; rw [decide_eq_true (HD4.out.trans HD3.out.symm)] at hsm; refine hsm.mono ?_; clear hsm; rintro e y2 ⟨rfl, hb2⟩
         have HY2 := Lib.hid (below_then HY1.out hb2); clear hb2)
      | (go_at_call 18; refine (HEN1.out _ HY2.out).mono ?_; rintro e y3 ⟨ls1, ao1, cq1, rfl, hls1, hoe1, hb3⟩
         have HY3 := Lib.hid (below_then HY2.out hb3); have HLS := Lib.hid hls1; have HOE := Lib.hid hoe1; clear hls1 hoe1 hb3)
      | (go_at_call 42; refine (HEN2.out _ HY3.out).mono ?_; rintro e y4 ⟨ao2, cq2, rfl, hown4, hb4⟩
         have HY4 := Lib.hid (below_then HY3.out hb4); have HE4 := Lib.hid (HOE.out.enR.below hb4); have HO4 := Lib.hid hown4; clear hb4 hown4)
      | (go_at_call 17; have hes := esame_any ao1 ao2 us1.length us2.length cq1 cq2 ls1 us2 y4 HE4.out ⟨rfl, RowN.of_own HO4.out, fun u hu => ⟨(HRK.out u hu _ HY4.out).1, Nat.le_trans (HRK.out u hu _ HY4.out).2.1 (HRK.out u hu _ HY4.out).2.2.1⟩⟩ HOE.out.cap; rw [decide_eq_true (HLS.out.trans HSAYS.out.symm)] at hes; refine hes.mono ?_; clear hes; rintro e y5 ⟨rfl, q5, rfl⟩
         have HY5 := Lib.hid (below_drewN HY4.out q5))
      | (go_at_call 30; refine (HHA1.out _ HY5.out).mono ?_; rintro e y6 ⟨rfl, hb6⟩; have HY6 := Lib.hid (below_then HY5.out hb6); clear hb6)
      | (go_at_call 43; refine (HHA2.out _ HY6.out).mono ?_; rintro e y7 ⟨rfl, hb7⟩; have HY7 := Lib.hid (below_then HY6.out hb7); clear hb7)
      | (go_at_call 19; refine (HNW1.out _ HY7.out).mono ?_; rintro e y8 ⟨rfl, hb8⟩; have HY8 := Lib.hid (below_then HY7.out hb8); clear hb8)
      | (go_at_call 44; refine (HNW2.out _ HY8.out).mono ?_; rintro e y9 ⟨rfl, hb9⟩; have HY9 := Lib.hid (below_then HY8.out hb9); clear hb9))
  all_goals
    go_wp2_with fail
    go_ret
    exact ⟨rfl, below_then HBA3.out HY9.out⟩
end Go.Proofs.Ytpaommkjafdghaa
