/- PackReads: values read one by one are those that Get tells: the walk. -/
import Derived.Test.YtdpajcamgipgkaaReads1
namespace Go.Proofs.Ytdpajcamgipgkaa
open Go.RowKit

def rdBox (w : World) : World := ((w.alloc (.cells #[] 63)).alloc (.cells #[.slice (some ⟨w.heap.size, 0, none⟩) 0 0] 48)).alloc (.cells #[.bool false] 4)
theorem rdBox_size (w : World) : (rdBox w).heap.size = w.heap.size + 3 := by unfold rdBox; rw [World.size_alloc, World.size_alloc, World.size_alloc]
theorem rdBox_below (w : World) : Below w.heap.size w (rdBox w) := (((Below.refl _ _).alloc (Nat.le_refl _) _).alloc (by rw [World.size_alloc]; omega) _).alloc (by rw [World.size_alloc, World.size_alloc]; omega) _
theorem rdBox_k (w : World) : (rdBox w).heap[w.heap.size + 1]? = some (.cells #[.slice (some ⟨w.heap.size, 0, none⟩) 0 0] 48 (0, 0)) := by
  unfold rdBox
  rw [heap_alloc_old _ _ (by rw [World.size_alloc, World.size_alloc]; omega)]
  have := heap_alloc_new (w.alloc (.cells #[] 63)) (.cells #[.slice (some ⟨w.heap.size, 0, none⟩) 0 0] 48)
  rw [World.size_alloc] at this
  exact this
theorem rdBox_f (w : World) : (rdBox w).heap[w.heap.size + 2]? = some (.cells #[.bool false] 4 (0, 0)) := by
  have := heap_alloc_new ((w.alloc (.cells #[] 63)).alloc (.cells #[.slice (some ⟨w.heap.size, 0, none⟩) 0 0] 48)) (.cells #[.bool false] 4)
  rw [World.size_alloc, World.size_alloc] at this
  exact this
theorem enters_reads1 (args : Array Value) (w : World) : (callFunc 42 args).run Try.prog w = .ok (.enter 42 args) w := enters Try.func42 (by kernel_rfl) rfl args w

/-- what the Read comes to -/
def RdRead (w : World) (zs : List Int) (bs : List UInt8) (e : Ending) (w' : World) : Prop :=
  Below w.heap.size w w' ∧
  ((∃ ps rest vs ao n cap, rdAcc zs bs [] = .ok (ps, rest) ∧ e = .returned (.int .i64 (if rest = [] then 0 else 30)) ∧ vs.map Vl.pv = ps ∧ w'.heap[w.heap.size + 1]? = some (.cells #[.slice ao n cap] 48 (0, 0)) ∧ w'.heap[w.heap.size + 2]? = some (.cells #[.bool true] 4 (0, 0)) ∧ Out w' w.heap.size vs ao n cap) ∨
   (∃ c, rdAcc zs bs [] = .error c ∧ e = .returned (.int .i64 (c : Nat)) ∧ w'.heap[w.heap.size + 2]? = some (.cells #[.bool false] 4 (0, 0))))

theorem reads_read (Z : Nat) (a : Option Addr) (len cap : Nat) (bs : List UInt8) (az : Option Addr) (nz cz : Nat) (zs : List Int) (w : World) (hr : Row8 w a len bs) (hlc : len ≤ cap) (hcm : cap ≤ maxLen) (hn : a = none → cap = 0)
    (hZ : w.heap[Z]? = some (.cells #[.slice az nz cz] 55 (0, 0))) (hrow : RowN w az 1 nz (cellsI zs)) (hnz : nz ≤ 1000000000) :
    Calls Try.prog 25 #[.slice a len cap, .func (.func 42) #[] #[.pointer (some ⟨Z, 0, none⟩), .pointer (some ⟨w.heap.size + 1, 0, none⟩), .pointer (some ⟨w.heap.size + 2, 0, none⟩)]] (rdBox w) (RdRead w zs bs) := by
  have hsz := rdBox_size w
  have hbl := rdBox_below w
  have hs2 := readStart_size (rdBox w) a len cap
  have hb2 := readStart_below (rdBox w) a len cap
  have hZl : Z < w.heap.size := lt_of_block hZ
  have hrow2 : RowN (readStart (rdBox w) a len cap) az 1 nz (cellsI zs) := (((hrow.alloc _).alloc _).alloc _).alloc _ |>.alloc _
  have hap : ∀ b off, az = some ⟨b, off, none⟩ → 0 < nz → b < w.heap.size := by
    intro b off e hn
    obtain ⟨b', off', e', hc⟩ := hrow.at 0 (by omega)
    rw [e] at e'
    injection e' with e'
    injection e' with e1
    have := World.block_lt_of_cell? w _ hc
    simp only at this
    omega
  have key := read_any 42 #[.pointer (some ⟨Z, 0, none⟩), .pointer (some ⟨w.heap.size + 1, 0, none⟩), .pointer (some ⟨w.heap.size + 2, 0, none⟩)] a len cap (rdBox w)
    (fun rest w' => ∃ ps vs ao n cap', rdAcc zs bs [] = .ok (ps, rest) ∧ vs.map Vl.pv = ps ∧ w'.heap[w.heap.size + 1]? = some (.cells #[.slice ao n cap'] 48 (0, 0)) ∧ w'.heap[w.heap.size + 2]? = some (.cells #[.bool true] 4 (0, 0)) ∧ Out w' (w.heap.size + 5) vs ao n cap' ∧ Touch [w.heap.size + 4, w.heap.size + 1, w.heap.size + 2] (readStart (rdBox w) a len cap) w')
    (fun code w' => ∃ c : Nat, rdAcc zs bs [] = .error c ∧ code = (c : Int) ∧ w'.heap[w.heap.size + 2]? = some (.cells #[.bool false] 4 (0, 0)) ∧ Touch [w.heap.size + 4, w.heap.size + 1, w.heap.size + 2] (readStart (rdBox w) a len cap) w') enters_reads1
    ((reads1_any ((rdBox w).heap.size + 1) Z (w.heap.size + 1) (w.heap.size + 2) az (some ⟨w.heap.size, 0, none⟩) nz cz zs bs (readStart (rdBox w) a len cap)
      (Rd.start ((((hr.alloc _).alloc _).alloc _)) hlc hcm hn) ((readStart_old (by omega)).trans ((hbl.block Z hZl).trans hZ)) ((readStart_old (by omega)).trans (rdBox_k w)) ((readStart_old (by omega)).trans (rdBox_f w)) hrow2 (fun b off e h0 => by have := hap b off e h0; omega) (by omega) (by omega) (by omega) hnz).mono fun e w' hp => by
        obtain ⟨ht, hok, hno⟩ := hp
        rw [hsz] at ht hok hno
        rw [hs2, hsz] at hok
        have hcode : w'.heap[(rdBox w).heap.size]? = some (.cells #[.int .i64 0] 29 (0, 0)) :=
          (ht.block _ (by omega) (by simp; omega)).trans ((heap_alloc_old _ _ (by rw [World.size_alloc]; omega)).trans (heap_alloc_new (rdBox w) _))
        refine ⟨hcode, ?_⟩
        cases hres : rdAcc zs bs [] with
        | error c =>
          obtain ⟨he, ht'⟩ := hno c hres
          exact .inr ⟨_, he, c, rfl, rfl, (ht'.block _ (by omega) (by simp)).trans ((readStart_old (by omega)).trans (rdBox_f w)), ht⟩
        | ok p =>
          obtain ⟨ps, rest⟩ := p
          obtain ⟨he, hrd, hF, vs, ao, n, cap', h1, h2, h3⟩ := hok ps rest hres
          exact .inl ⟨rest, he, by rw [hsz]; exact hrd, ps, vs, ao, n, cap', rfl, h1, h2, hF, h3, ht⟩)
  refine key.mono fun e w' hp => ?_
  have hS : ∀ k ∈ [w.heap.size + 4, w.heap.size + 1, w.heap.size + 2], w.heap.size ≤ k := by simp
  have hall : Below w.heap.size w (readStart (rdBox w) a len cap) := hbl.trans ⟨hb2.os, hb2.tape, hb2.output, hb2.size, fun k hk => hb2.block k (by omega)⟩
  rcases hp with ⟨rest, w1, ⟨ps, vs, ao, n, cap', h1, h2, h3, hF, h4, ht⟩, he, hle, hg⟩ | ⟨code, w1, ⟨c, h1, hc, hF, ht⟩, he, hg⟩
  · have hbw := ht.below hall (by omega) hS
    refine ⟨hbw.grown hg (by have := hbw.size; omega) (fun k hk => by injection hk; omega), .inl ⟨ps, rest, vs, ao, n, cap', h1, he, h2, ?_, ?_, ?_⟩⟩
    · exact (hg.block _ (lt_of_block h3) (fun e => by injection e; omega)).trans h3
    · exact (hg.block _ (lt_of_block hF) (fun e => by injection e; omega)).trans hF
    · have h5 : Out w' (w.heap.size + 5) vs ao n cap' := h4.keep fun g hb hl => hg.block g hl (fun e => by injection e; omega)
      rcases h5 with h5 | h5
      · exact .inl ⟨h5.len, own_more h5.row (by omega), fun v hv => own_more (h5.own v hv) (by omega)⟩
      · exact .inr h5
  · have hbw := ht.below hall (by omega) hS
    exact ⟨hbw.grown hg (by have := hbw.size; omega) (fun k hk => by injection hk; omega), .inr ⟨c, h1, by rw [he, hc], (hg.block _ (lt_of_block hF) (fun e => by injection e; omega)).trans hF⟩⟩

theorem same_pv {u v : Vl} (h : u.pv = v.pv) (hf : v.pv.fit) : SameV u v := by
  have h0 : u.kind = v.kind := congrArg Pv.kind h
  have h1 : u.n = v.n := congrArg Pv.n h
  have h2 : u.x = v.x := congrArg Pv.x h
  have h3 : u.s.bs = v.s.bs := congrArg Pv.bs h
  have h4 : u.on = v.on := congrArg Pv.on h
  have hk : 1 ≤ v.kind ∧ v.kind ≤ 4 := hf.k
  exact ⟨h0.symm, by rw [h0]; exact hk, fun _ => h1.symm, fun _ => by rw [h2], fun _ => h3.symm, fun _ => h4.symm⟩
theorem same_pvs {us vs : List Vl} {ps : List Pv} (h : us.map Vl.pv = ps) (h' : vs.map Vl.pv = ps) (hf : ∀ p ∈ ps, p.fit) : ∀ (i : Nat) u v, us[i]? = some u → vs[i]? = some v → SameV u v := by
  intro i u v hu hv
  have h1 : (us.map Vl.pv)[i]? = some u.pv := by rw [List.getElem?_map, hu]; rfl
  have h2 : (vs.map Vl.pv)[i]? = some v.pv := by rw [List.getElem?_map, hv]; rfl
  rw [h] at h1
  rw [h', h1] at h2
  injection h2 with h2
  exact same_pv h2 (hf _ (by rw [← h2]; exact List.mem_of_getElem? h1))
theorem Out.ok {w : World} {base : Nat} {vs : List Vl} {ao : Option Addr} {n cap : Nat} (h : Out w base vs ao n cap) (hf : ∀ v ∈ vs, v.pv.fit) : ∀ v ∈ vs, Vl.ok w v := by
  rcases h with h | ⟨rfl, _, _⟩
  · exact h.ok hf
  · intro v hv; cases hv

theorem reads_law (zs : List Int) (bs : List UInt8) : (∀ ps, rdAcc zs bs [] = .ok (ps, []) → getV zs bs = (ps, 0) ∧ (∀ p ∈ ps, p.fit) ∧ ps.length = zs.length) ∧ (∀ ps c r, rdAcc zs bs [] = .ok (ps, c :: r) → getV zs bs = ([], 30) ∧ ps.length = zs.length) ∧
    (∀ c, rdAcc zs bs [] = .error c → (c = 30 ∧ getV zs bs = ([], 30)) ∨ (c = 1 ∧ getV zs bs = ([], 1)) ∨ (c = 30 ∧ getV zs bs = ([], 1))) := by
  cases hb : zs.any badKind with
  | true =>
    have hg : getV zs bs = ([], 1) := by rw [getV, if_pos hb]
    rcases rdAcc_bad zs hb bs [] with h | h
    · refine ⟨(fun ps h' => by rw [h] at h'; cases h'), (fun ps c r h' => by rw [h] at h'; cases h'), fun c h' => ?_⟩
      rw [h] at h'
      injection h' with h'
      exact .inr (.inl ⟨h'.symm, hg⟩)
    · refine ⟨(fun ps h' => by rw [h] at h'; cases h'), (fun ps c r h' => by rw [h] at h'; cases h'), fun c h' => ?_⟩
      rw [h] at h'
      injection h' with h'
      exact .inr (.inr ⟨h'.symm, hg⟩)
  | false =>
    have hbz : ∀ z ∈ zs, badKind z = false := fun z hz => by
      cases h : badKind z with
      | false => rfl
      | true => rw [List.any_eq_true.2 ⟨z, hz, h⟩] at hb; cases hb
    have hz : ∀ z ∈ zs, 1 ≤ z ∧ z ≤ 4 := fun z h => badKind_no (hbz z h)
    have hr := rdAcc_good zs hbz bs []
    have hg : getV zs bs = match getAcc zs bs [] with
      | some (ps, []) => (ps, 0)
      | _ => ([], 30) := by rw [getV, if_neg (by simp [hb])]; rfl
    cases ha : getAcc zs bs [] with
    | none =>
      rw [ha] at hr hg
      simp only at hr hg
      refine ⟨(fun ps h' => by rw [hr] at h'; cases h'), (fun ps c r h' => by rw [hr] at h'; cases h'), fun c h' => ?_⟩
      rw [hr] at h'
      injection h' with h'
      exact .inl ⟨h'.symm, hg⟩
    | some q =>
      obtain ⟨ps, rest⟩ := q
      rw [ha] at hr hg
      simp only at hr
      obtain ⟨qs, h1, h2, _, h4⟩ := bytes_getAcc zs hz bs rest [] ps ha
      rw [List.nil_append] at h1
      subst h1
      refine ⟨fun ps' h' => ?_, fun ps' c r h' => ?_, fun c h' => by rw [hr] at h'; cases h'⟩
      · rw [hr] at h'
        injection h' with h'
        injection h' with e1 e2
        subst e1 e2
        exact ⟨hg, fun p hp => (h4 p hp).fit, by rw [← h2, List.length_map]⟩
      · rw [hr] at h'
        injection h' with h'
        injection h' with e1 e2
        subst e1 e2
        exact ⟨hg, by rw [← h2, List.length_map]⟩

set_option maxRecDepth 100000 in
set_option maxHeartbeats 6400000 in
theorem packReads_walk (a : Option Addr) (len cap : Nat) (bs : List UInt8) (az : Option Addr) (nz cz : Nat) (zs : List Int) (w : World) (hr : Row8 w a len bs) (hlc : len ≤ cap) (hcm : cap ≤ maxLen) (hn : a = none → cap = 0)
    (hrow : RowN w az 1 nz (cellsI zs)) (hzc : nz ≤ cz) (_hzm : cz ≤ maxLen) (_hzn : az = none → cz = 0) (hbulk : cap + cz ≤ 1048576) :
    Calls Try.prog 12 #[.slice a len cap, .slice az nz cz] w fun e w' => e = .returned (.bool true) ∧ Below w.heap.size w w' := by
  have hmf := hmf
  have hl : zs.length = nz := by have := hrow.1; rw [cellsI_len] at this; omega
  have hbox : (w.alloc (.cells #[.slice az nz cz] 55)).heap[w.heap.size]? = some (.cells #[.slice az nz cz] 55 (0, 0)) := heap_alloc_new w _
  have hread := fun w' (hb : Below (w.heap.size + 1) (w.alloc (.cells #[.slice az nz cz] 55)) w') => reads_read w.heap.size a len cap bs az nz cz zs w' ((hr.alloc _).below (by rw [World.size_alloc]; exact hb)) hlc hcm hn ((hb.block _ (by omega)).trans hbox) ((hrow.alloc _).below (by rw [World.size_alloc]; exact hb)) (by omega)
  have hget := fun w' (hb : Below (w.heap.size + 1) (w.alloc (.cells #[.slice az nz cz] 55)) w') => get_any a len cap bs az nz cz zs w' ((hr.alloc _).below (by rw [World.size_alloc]; exact hb)) hlc hcm hn ((hrow.alloc _).below (by rw [World.size_alloc]; exact hb)) (by omega)
  have hzs := World.size_alloc w (.cells #[.slice az nz cz] 55)
  have hb0 : Below w.heap.size w (w.alloc (.cells #[.slice az nz cz] 55)) := (Below.refl _ _).alloc (Nat.le_refl _) _
  obtain ⟨l1, l2, l3⟩ := reads_law zs bs
  have HREAD := Lib.hid hread
  have HGET := Lib.hid hget
  have HBOX := Lib.hid hbox
  have HB0 := Lib.hid hb0
  have HL := Lib.hid hl
  have L1 := Lib.hid l1
  have L2 := Lib.hid l2
  have L3 := Lib.hid l3
  clear hread hget hbox hb0 hl l1 l2 l3 hr hrow
  go_enter Try.func12, Try.ntmps12
  go_wp2_with fail
  obtain ⟨w0, hw0⟩ : ∃ w0, w0 = w.alloc (.cells #[.slice az nz cz] 55) := ⟨_, rfl⟩
  rw [← hw0] at HREAD HGET HBOX HB0 hzs ⊢
  clear hw0
  refine (reading_any _).mono ?_
  rintro e w1 ⟨rfl, hb1⟩
  have hz1 := hb1.size
  go_wp2_with fail
  refine (getting_any _).mono ?_
  rintro e w2 ⟨rfl, hb2⟩
  replace hb2 := hb1.trans (hb2.mono hz1)
  rw [hzs] at hb2
  have hz2 := hb2.size
  go_wp2_with fail
  refine (HREAD.out w2 hb2).mono ?_
  rintro e w3 ⟨hb3, hcase⟩
  have hb03 : Below (w.heap.size + 1) w0 w3 := hb2.trans (hb3.mono (by omega))
  have hZ3 := (hb03.block w.heap.size (by omega)).trans HBOX.out
  have hcZ := cell_of_one hZ3
  have hz3 := hb03.size
  have HZ3 := Lib.hid hZ3
  have HB03 := Lib.hid hb03
  have hget := HGET.out w3 hb03
  clear hb1 hb2 hb3 hb03 hZ3
  rcases hcase with ⟨ps, rest, vs, ao, n, cap', h1, rfl, h2, hK, hF, hO⟩ | ⟨c, h1, rfl, hF⟩
  · cases rest with
    | nil =>
      obtain ⟨g1, g2, g3⟩ := L1.out ps h1
      rw [g1] at hget
      rw [if_pos rfl]
      have HG := Lib.hid hget
      have HK := Lib.hid hK
      have HF := Lib.hid hF
      have HO := Lib.hid hO
      have H2 := Lib.hid h2
      have HFIT := Lib.hid g2
      clear hget hK hF hO h1 h2 g1 g2
      go_wp2_with fail
      refine HG.out.mono ?_
      rintro e w4 ⟨us, ao4, n4, c4, rfl, hpv, hO4, hb4⟩
      simp only at hpv
      have hK4 := (hb4.block _ (lt_of_block HK.out)).trans HK.out
      have hF4 := (hb4.block _ (lt_of_block HF.out)).trans HF.out
      have hcK := cell_of_one hK4
      have hcF := cell_of_one hF4
      have hO' := HO.out.keep (w' := w4) fun g hb hl => hb4.block g hl
      have hln : vs.length = us.length := by
        have h := congrArg List.length H2.out
        have h' := congrArg List.length hpv
        rw [List.length_map] at h h'
        omega
      obtain rfl : n = n4 := by rw [← hO'.len, ← hO4.len, hln]
      have hbw4 : Below w.heap.size w w4 := HB0.out.trans ((HB03.out.mono (by omega)).trans (hb4.mono (by omega)))
      have hz4 := hbw4.size
      have hnn : n ≤ 1000000000 := by
        have h := congrArg List.length H2.out
        rw [List.length_map, hO'.len, g3, HL.out] at h
        omega
      have hfv : ∀ v ∈ vs, v.pv.fit := fun v hv => HFIT.out _ (by rw [← H2.out]; exact List.mem_map_of_mem hv)
      have hfu : ∀ v ∈ us, v.pv.fit := fun v hv => HFIT.out _ (by rw [← hpv]; exact List.mem_map_of_mem hv)
      have hsm := same_pvs H2.out hpv HFIT.out
      have HVOK := Lib.hid (hO'.ok hfv)
      have HUOK := Lib.hid (hO4.ok hfu)
      have HVR := Lib.hid hO'.row
      have HUR := Lib.hid (RowN.of_own hO4.row)
      have HVL := Lib.hid hO'.len
      have HUL := Lib.hid hO4.len
      have HSM := Lib.hid hsm
      have HBW4 := Lib.hid hbw4
      clear hK4 hF4 hO' hO4 hln hfv hfu hsm hb4 hbw4 hpv g3
      go_wp2_with fail
      refine (of_len ao n cap' vs w4 HVR.out HVL.out (by omega)).mono ?_
      rintro e w5 ⟨ao5, c5, rfl, hown5, hb5⟩
      have hz5 := hb5.size
      go_wp2_with fail
      refine (of_len ao4 n c4 us w5 (HUR.out.below hb5) HUL.out (by omega)).mono ?_
      rintro e w6 ⟨ao6, c6, rfl, hown6, hb6⟩
      have hb46 := hb5.trans (hb6.mono hz5)
      have hz6 := hb46.size
      go_wp2_with fail
      refine (refSame_any ao5 ao6 n c5 c6 vs us w6 ((RowN.of_own hown5).below hb6) HVL.out (fun u hu => ⟨(HVOK.out u hu).1.below hb46, (HVOK.out u hu).2⟩) (RowN.of_own hown6) HUL.out (fun u hu => ⟨(HUOK.out u hu).1.below hb46, (HUOK.out u hu).2⟩) HSM.out (by omega)).mono ?_
      rintro e w7 ⟨rfl, hb7⟩
      have hbw7 := HBW4.out.trans ((hb46.trans (hb7.mono hz6)).mono hz4)
      clear hown5 hown6 hb5 hb6 hb46 hb7
      go_wp2_with fail
      go_ret
      exact ⟨rfl, hbw7⟩
    | cons x r =>
      obtain ⟨g1, g2⟩ := L2.out ps x r h1
      rw [g1] at hget
      rw [if_neg (by simp)]
      have HG := Lib.hid hget
      have HK := Lib.hid hK
      have HF := Lib.hid hF
      have hnl : n = nz := by
        have h := congrArg List.length h2
        rw [List.length_map, hO.len, g2, HL.out] at h
        exact h
      subst hnl
      clear hget hK hF hO h1 h2 g1 g2
      go_wp2_with fail
      refine HG.out.mono ?_
      rintro e w4 ⟨us, ao4, n4, c4, rfl, hpv, hO4, hb4⟩
      have hK4 := (hb4.block _ (lt_of_block HK.out)).trans HK.out
      have hF4 := (hb4.block _ (lt_of_block HF.out)).trans HF.out
      have hZ4 := (hb4.block _ (lt_of_block HZ3.out)).trans HZ3.out
      have hcK := cell_of_one hK4
      have hcF := cell_of_one hF4
      have hcZ4 := cell_of_one hZ4
      have hbw4 : Below w.heap.size w w4 := HB0.out.trans ((HB03.out.mono (by omega)).trans (hb4.mono (by omega)))
      clear hK4 hF4 hZ4 hpv hO4 hb4
      go_wp2_with fail
      go_ret
      exact ⟨by simp, hbw4⟩
  · have HF := Lib.hid hF
    rcases L3.out c h1 with ⟨rfl, g1⟩ | ⟨rfl, g1⟩ | ⟨rfl, g1⟩
    all_goals
      rw [g1] at hget
      have HG := Lib.hid hget
      clear hget hF h1 g1
      go_wp2_with fail
      refine HG.out.mono ?_
      rintro e w4 ⟨us, ao4, n4, c4, rfl, hpv, hO4, hb4⟩
      have hF4 := (hb4.block _ (lt_of_block HF.out)).trans HF.out
      have hcF := cell_of_one hF4
      have hbw4 : Below w.heap.size w w4 := HB0.out.trans ((HB03.out.mono (by omega)).trans (hb4.mono (by omega)))
      clear hF4 hpv hO4 hb4
      go_wp2_with fail
      go_ret
      exact ⟨by simp, hbw4⟩
end Go.Proofs.Ytdpajcamgipgkaa
