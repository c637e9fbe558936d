/- RlogSound: the walk. -/
import Derived.Test.YtpaommkjafdghaaOpE
import Derived.Deep.CutRange
import Derived.Deep.CutBlock
namespace Go.Proofs.Ytpaommkjafdghaa
open Go.RowKit

/-- what holds of the log between two steps -/
def SndI (w : World) (B N : Nat) (wr : World) : Prop :=
  ∃ (ix tm : Int) (c : Cf) (es : List En) (ae : Option Addr) (n cp : Nat), LogAt wr B N ix tm c es ae n cp ∧ Sound ix tm es ∧ AllR es ∧ Rise tm es ∧ (c.says.1.length ≤ 1048576 ∧ c.says.2.length ≤ 1048576) ∧ Below w.heap.size w wr ∧ B ≤ wr.heap.size

/-- what holds while entries that were told are looked at and written over -/
structure ChkI (w6 : World) (ls : List En) (ao : Option Addr) (m cq : Nat) (wr : World) : Prop where
  below : Below w6.heap.size w6 wr
  row : wr.ownsRow w6.heap.size 32 4 (.slice ao m cq) m (ls.flatMap En.cells)
  own : ∀ l ∈ ls, ∃ bs, Own8 wr w6.heap.size l.s.a l.s.len l.s.cap bs
theorem ChkI.later {w6 wr wz : World} {ls : List En} {ao : Option Addr} {m cq : Nat} (h : ChkI w6 ls ao m cq wr) (hb : Below wr.heap.size wr wz) : ChkI w6 ls ao m cq wz :=
  ⟨below_then h.below hb, own_keep h.row fun g _ hl => hb.block g hl, fun l hl => by
    obtain ⟨bs, ho⟩ := h.own l hl
    exact ⟨bs, own_keep ho fun g _ hl => hb.block g hl⟩⟩
theorem ChkI.put {w6 wr : World} {ls : List En} {ao : Option Addr} {m cq : Nat} (h : ChkI w6 ls ao m cq wr) {B : Nat} {a : Option Addr} {len cap : Nat} {bs : List UInt8} {g i : Nat} (ho : Own8 wr B a len cap bs) (hg : Value.ownBlock (.slice a len cap) = some g) (hB : w6.heap.size ≤ g) (x : UInt8) : ChkI w6 ls ao m cq (wr.setCell ⟨g, i, none⟩ (.int .u8 ((x.toNat : Nat) : Int))) :=
  ⟨(Touch.set (S := [g]) wr g i _ (by simp)).below h.below h.below.size (fun k hk => by simp at hk; omega),
    own_keep h.row fun k hk hl => Below.heap_setCell wr _ _ k (fun e => own_apart h.row ho (by decide) k hk (by rw [hg, e])),
    fun l hl => by
      obtain ⟨bs, hb⟩ := h.own l hl
      exact own8_put hb g i x⟩

set_option maxRecDepth 100000 in
set_option maxHeartbeats 6400000 in
theorem rlogSound_walk (index term : Int) (c : Cf) (a : Option Addr) (len cap : Nat) (os : List OpE) (w : World) (hc : c.ok w) (hr : RowN w a 4 len (os.flatMap OpE.cells)) (hol : os.length = len) (hok1 : ∀ o ∈ os, o.ok w) (hlc : len ≤ cap) (hm : cap ≤ maxLen) (_hn : a = none → cap = 0) (hbk : c.v.len + c.l.len + bulkO os ≤ 1048576) :
    Calls Try.prog 6 #[.int .i64 index, .int .i64 term, .agg #[.slice c.v.a c.v.len c.v.cap, .slice c.l.a c.l.len c.l.cap], .slice a len cap] w fun e w' => e = .returned (.bool true) ∧ Below w.heap.size w w' := by
  have hlen : len ≤ 9223372036854775807 := by simp only [maxLen] at hm; omega
  have hcb : c.v.len ≤ 1048576 ∧ c.l.len ≤ 1048576 := by omega
  have hok : ∀ o ∈ os, o.ok w ∧ o.len ≤ 1048576 := fun o ho => ⟨hok1 o ho, by have := bulkO_mem ho; have := bulkE_len o.us; have := (hok1 o ho).len; omega⟩
  clear hok1 hbk
  have hbx : Below w.heap.size w (w.alloc (.cells #[.slice c.v.a c.v.len c.v.cap, .slice c.l.a c.l.len c.l.cap] 27)) := below_alloc (Below.refl _ _) _
  have hnew := rnew_any index term c _ (hc.below hbx) (by omega)
  have hsay : c.says.1.length ≤ 1048576 ∧ c.says.2.length ≤ 1048576 := by
    have h1 := hc.1.1.1
    have h2 := hc.2.1.1
    rw [cellsZ_len] at h1 h2
    simp only [Cf.says]
    omega
  have HR := Lib.hid hr
  have HOK := Lib.hid hok
  have HOL := Lib.hid hol
  have HNEW := Lib.hid hnew
  have HBX := Lib.hid hbx
  have HSAY := Lib.hid hsay
  clear hr hok hol hnew hbx hc hsay
  go_enter Try.func6, Try.ntmps6
  go_wp2_with fail
  refine HNEW.out.mono ?_
  rintro e w2 ⟨N, c1, rfl, hL, hs1, hb2⟩
  rw [World.size_alloc] at hL
  have hb2' := below_then HBX.out hb2
  have hz2 := hb2.size
  rw [World.size_alloc] at hz2
  have hI : SndI w (w.heap.size + 1) N w2 := by
    exact ⟨_, _, c1, [], none, 0, 0, hL, ⟨clampN_le _, clampN_le _, fun k e he => (by cases he)⟩, (fun e he => by cases he), trivial, by rw [hs1]; exact HSAY.out, hb2', hz2⟩
  have HI := Lib.hid hI
  clear hL hs1 hb2 hI HNEW HSAY hcb
  have HB2 := Lib.hid hb2'
  clear hb2'
  go_wp2_with fail
  refine (alive_any _).mono ?_
  rintro e w3 ⟨rfl, hb3⟩
  have hI : SndI w (w.heap.size + 1) N w3 := by
    obtain ⟨ix, tm, c, es, ae, n, cp, h1, h2, h3, h4, h5, h6, h7⟩ := HI.out
    exact ⟨ix, tm, c, es, ae, n, cp, h1.below hb3, h2, h3, h4, h5, below_then h6 hb3, Nat.le_trans h7 hb3.size⟩
  have HI3 := Lib.hid hI
  clear hI HI hb3 HB2
  go_wp2_with fail
  go_loopw [36] (fun i wr => ∃ (k : Nat), i = .int .i64 k ∧ k ≤ len ∧ Hid (SndI w (w.heap.size + 1) N wr)) (fun i _ => len - (intOf i).toNat)
  case atStart => exact ⟨0, rfl, by omega, HI3.out⟩
  case round =>
    obtain ⟨k, rfl, hk, HI⟩ := hrel
    by_cases hlt : k < len
    · obtain ⟨o, hok⟩ : ∃ o, os[k]? = some o := ⟨_, List.getElem?_eq_getElem (by rw [HOL.out]; omega)⟩
      obtain ⟨ix, tm, c', es, ae, n, cp, hL, hS, hA, hRi, hcs, hbw, hzB⟩ := HI.out
      obtain ⟨b, off, rfl, e0, e1, e2, e3⟩ := op_at (HR.out.below hbw) HOL.out k hlt o hok
      have hkl : (k : Int) < (len : Int) := by omega
      have hn40 : n ≤ 1099511627776 := by have := hS.few hA; rw [hL.len] at this; exact this
      have hla := hS.last
      have hl := fun Z (hZ : Below wr.heap.size wr Z) => last_any _ N ix tm c' es ae n cp Z (hL.below hZ) (by omega)
      have hba := fun Z (hZ : Below wr.heap.size wr Z) => base_any _ N ix tm c' es ae n cp Z (hL.below hZ)
      have hrx := hS.rx
      obtain ⟨p, hp⟩ : ∃ p, p = lastOf ix tm es := ⟨_, rfl⟩
      rw [← hp] at hl hla
      obtain ⟨li, lt⟩ := p
      simp only at hl hla
      have hbx : Below wr.heap.size wr (wr.alloc (.cells #[.int .i64 o.kd, .int .i64 o.n, .bool o.near, .slice o.a o.len o.cap] 56)) := below_alloc (Below.refl _ _) _
      have hbx2 : ∀ w2, Below (wr.alloc (.cells #[.int .i64 o.kd, .int .i64 o.n, .bool o.near, .slice o.a o.len o.cap] 56)).heap.size (wr.alloc (.cells #[.int .i64 o.kd, .int .i64 o.n, .bool o.near, .slice o.a o.len o.cap] 56)) w2 → w2.heap[wr.heap.size]? = some (.cells #[.int .i64 o.kd, .int .i64 o.n, .bool o.near, .slice o.a o.len o.cap] 56 (0, 0)) := fun w2 hb => (hb.block _ (by rw [World.size_alloc]; omega)).trans (heap_alloc_new wr _)
      have HL := Lib.hid hl
      have HBA := Lib.hid hba
      have HLG := Lib.hid hL
      have HS := Lib.hid hS
      have HA := Lib.hid hA
      have HRI := Lib.hid hRi
      have HCS := Lib.hid hcs
      have HBW := Lib.hid hbw
      have HP := Lib.hid hp
      have HBXR := Lib.hid hbx
      have HBX2 := Lib.hid hbx2
      have HOO := Lib.hid (HOK.out o (List.mem_of_getElem? hok))
      clear hl hba hL hS hA hRi hcs hbw hp hbx hbx2 hok hla
      go_wp2_with fail
      refine (HL.out _ HBXR.out).mono ?_
      rintro e w4 ⟨rfl, hb4⟩
      have HB4 := Lib.hid hb4
      clear hb4
      go_wp2_with fail
      refine (HBA.out _ (below_then HBXR.out HB4.out)).mono ?_
      rintro e w5 ⟨rfl, hb5⟩
      have hb5' := below_then HB4.out hb5
      have hB5 := HBX2.out _ hb5'
      obtain ⟨⟨b0, b1, b2, b3⟩, _⟩ := four_cells hB5
      have HB5 := Lib.hid (below_then HBXR.out hb5')
      have hz5 := HB5.out.size
      clear hb5 hb5' hB5 HB4 HBX2 HBXR HL HBA
      go_upto_block 2 with fail
      go_cut [36] from 36 to 141 (fun v36 wx => v36 = .int .i64 k ∧ Hid (SndI w (w.heap.size + 1) N wx))
      case first =>
        have hkeep : ∀ Z, Below w5.heap.size w5 Z → Hid (SndI w (w.heap.size + 1) N Z) := fun Z hZ => by
          have hb := below_then HB5.out hZ
          exact ⟨ix, tm, c', es, ae, n, cp, HLG.out.below hb, HS.out, HA.out, HRI.out, HCS.out, below_then HBW.out hb, Nat.le_trans hzB hb.size⟩
        have hstep : ∀ (Z0 Z : World) (ix' tm' : Int) (c1 : Cf) (es' : List En) (ae' : Option Addr) (n' cp' : Nat), Below w5.heap.size w5 Z0 → LogAt Z (w.heap.size + 1) N ix' tm' c1 es' ae' n' cp' → NStep Z0 Z N ae ae' → Sound ix' tm' es' → AllR es' → Rise tm' es' → (c1.says.1.length ≤ 1048576 ∧ c1.says.2.length ≤ 1048576) → Hid (SndI w (w.heap.size + 1) N Z) := fun Z0 Z ix' tm' c1 es' ae' n' cp' hZ0 hLZ hst h1 h2 h3 h4 => by
          have hb0 := below_then HB5.out hZ0
          have hbz := (HLG.out.below hb0).stepBelow hst (by have := hb0.size; omega)
          exact ⟨ix', tm', c1, es', ae', n', cp', hLZ, h1, h2, h3, h4, (below_then HBW.out hb0).trans (hbz.mono (by omega)), by have := hbz.size; have := hb0.size; omega⟩
        have HKEEP := Lib.hid hkeep
        have HSTEP := Lib.hid hstep
        have HL5 := Lib.hid (HLG.out.below HB5.out)
        clear hkeep hstep
        by_cases h1 : o.kd = 1
        · have hput := put_any o.a o.len o.cap o.us li w5 (HOO.out.1.row.below (below_then HBW.out HB5.out)) HOO.out.1.len (by have := HOO.out.2; omega)
          have HPUT := Lib.hid hput
          have hk1 : (o.kd == 1) = true := by simp [h1]
          clear hput h1
          go_wp2_with fail
          refine HPUT.out.mono ?_
          rintro e w6 ⟨ao, cq, rfl, hown6, hb6⟩
          have hpl := putOf_len o.us li
          rw [HOO.out.1.len] at hpl
          have hrow6 : w6.ownsRow w5.heap.size 32 4 (.slice ao (putOf li o.us).length cq) (putOf li o.us).length ((putOf li o.us).flatMap En.cells) := hown6
          have hb06 := below_then (below_then HBW.out HB5.out) hb6
          have hen := EnAt.of_row HL5.out hrow6 (us := o.us) (fun u hu => ⟨(HOO.out.1.ok u hu).below hb06, slP_low (HOO.out.1.ok u hu) HL5.out (by omega)⟩) (putOf_s o.us li) hpl
          have hap := append_any (w.heap.size + 1) N ix tm c' es ae n cp ao o.len cq (putOf li o.us) w6 (HL5.out.below hb6) HS.out (by have := HOO.out.2; omega) hen
          rw [hpl]
          have HAP := Lib.hid hap
          have HB6 := Lib.hid hb6
          clear hap hown6 hrow6 hb06 hen hpl hb6 HPUT
          go_wp2_with fail
          refine HAP.out.mono ?_
          rintro e w7 ⟨rfl, hne, h0⟩
          go_wp2_with fail
          go_meet
          refine ⟨rfl, ?_⟩
          by_cases hcd : appendOf (lastOf ix tm es).1 (lastOf ix tm es).2 (putOf li o.us) = 0
          · obtain ⟨vs, ae', cp', hsay, hL7, hst, -⟩ := h0 hcd
            exact HSTEP.out w6 w7 ix tm c' (es ++ vs) ae' _ cp' HB6.out hL7 hst (HS.out.append hcd hsay) (HA.out.append hcd hsay) (HRI.out.more hcd hsay) HCS.out
          · exact HKEEP.out w7 (below_then HB6.out (hne hcd))
        · have hk1 : (o.kd == 1) = false := by simp [h1]
          have hm := and_mask o.n 15 (by omega)
          have hm' : 0 ≤ bits .and .i64 o.n 15 ∧ bits .and .i64 o.n 15 ≤ 15 := hm
          clear hm
          by_cases h2 : o.kd = 2
          · have hk2 : (o.kd == 2) = true := by simp [h2]
            clear h1 h2
            go_wp2_with fail
            obtain ⟨t0, ht1⟩ : ∃ t0, t0 = ix + bits .and .i64 o.n 15 := ⟨_, rfl⟩
            rw [← ht1]
            by_cases hc : t0 ≤ ix
            · refine (cutFrom_no _ N ix tm c' es ae n cp t0 w5 HL5.out hc).mono ?_
              rintro e w6 ⟨rfl, hb6⟩
              go_wp2_with fail
              go_meet
              exact ⟨rfl, HKEEP.out w6 hb6⟩
            · refine (cutFrom_any _ N ix tm c' es ae n cp t0 w5 HL5.out HS.out.rx (by omega) (by omega) (by omega)).mono ?_
              rintro e w6 ⟨rfl, hL6, hst⟩
              go_wp2_with fail
              go_meet
              exact ⟨rfl, HSTEP.out w5 w6 ix tm c' _ ae _ cp (Below.refl _ _) hL6 hst (HS.out.take _) (HA.out.take _) (HRI.out.take _) HCS.out⟩
          · have hk2 : (o.kd == 2) = false := by simp [h2]
            by_cases h3 : o.kd = 3
            · have hk3 : (o.kd == 3) = true := by simp [h3]
              clear h1 h2 h3
              go_wp2_with fail
              obtain ⟨t0, ht1⟩ : ∃ t0, t0 = ix + bits .and .i64 o.n 15 := ⟨_, rfl⟩
              rw [← ht1]
              by_cases hc : t0 ≤ ix + n
              · have hle : t0 ≤ ix + es.length := by rw [HL5.out.len]; exact hc
                refine (dropTo_any _ N ix tm c' es ae n cp t0 w5 HL5.out HS.out (by omega) (by
                  have h1 := HL5.out.vo.len
                  have h2 := HL5.out.le.len
                  have h3 := HCS.out
                  simp only [Cf.says] at h3
                  omega) (term_in t0 (by omega) hle)).mono ?_
                rintro e w6 ⟨rfl, c2, a2, cp2, hc2, hL6, hst⟩
                go_wp2_with fail
                go_meet
                refine ⟨rfl, HSTEP.out w5 w6 _ _ c2 _ a2 _ cp2 (Below.refl _ _) hL6 hst (HS.out.drop HA.out t0 (by omega) hle) (HA.out.drop _) ?_ ?_⟩
                · rw [term_tAt t0 (by omega) hle]
                  exact HRI.out.drop _ (by omega)
                · rw [hc2]
                  exact conf_small _ _ _ _ _ HCS.out (by omega)
              · refine (dropTo_no _ N ix tm c' es ae n cp t0 w5 HL5.out HS.out (by omega) (by unfold termOf; rw [if_pos (by rw [HL5.out.len]; omega)])).mono ?_
                rintro e w6 ⟨rfl, hb6⟩
                go_wp2_with fail
                go_meet
                exact ⟨rfl, HKEEP.out w6 hb6⟩
            · have hk3 : (o.kd == 3) = false := by simp [h3]
              clear h1 h2 h3
              go_wp2_with fail
              go_meet
              exact ⟨rfl, HKEEP.out w5 (Below.refl _ _)⟩
      case rest =>
        obtain ⟨rfl, HIc⟩ := hcut
        clear HLG HS HA HRI HCS HBW HP HB5 HOO HI b0 b1 b2 b3 e0 e1 e2 e3 hrx hn40 hzB hz5
        obtain ⟨ix2, tm2, c2, es2, ae2, n2, cp2, hL, hS, hA, hRi, hcs, hbw, hzB⟩ := HIc.out
        have hrx := hS.rx
        have hn40 : n2 ≤ 1099511627776 := by have := hS.few hA; rw [hL.len] at this; exact this
        have hba := base_any _ N ix2 tm2 c2 es2 ae2 n2 cp2 wc hL
        have hen := fun Z (hZ : Below wc.heap.size wc Z) => entries_any _ N ix2 tm2 c2 es2 ae2 n2 cp2 0 1000 Z (hL.below hZ) hS (by omega) (hA.small hL)
        have hea : entriesOf ix2 es2 0 1000 = es2.take 1000 := entries_all hrx.1 1000 (by omega)
        rw [hea] at hen
        have hla := fun Z (hZ : Below wc.heap.size wc Z) => last_any _ N ix2 tm2 c2 es2 ae2 n2 cp2 Z (hL.below hZ) (by omega)
        have hlt2 := last_tm ix2 tm2 es2
        have hli2 := hS.last
        obtain ⟨p, hp⟩ : ∃ p, p = lastOf ix2 tm2 es2 := ⟨_, rfl⟩
        rw [← hp] at hla hlt2 hli2
        obtain ⟨li2, lt2⟩ := p
        simp only at hla hlt2 hli2
        have hhas := fun (j : Nat) (e : En) (he : es2[j]? = some e) Z (hZ : Below wc.heap.size wc Z) => has_any _ N ix2 tm2 c2 es2 ae2 n2 cp2 e.ix e.tm Z (hL.below hZ) hS (by omega)
        have HBA := Lib.hid hba
        have HEN := Lib.hid hen
        have HLA := Lib.hid hla
        have HLT2 := Lib.hid hlt2
        have HLI2 := Lib.hid hli2
        have HHAS := Lib.hid hhas
        have HL2 := Lib.hid hL.len
        have HS2 := Lib.hid hS
        have HRI2 := Lib.hid hRi
        clear hea hba hen hla hlt2 hli2 hhas hL hS hA hRi hcs hbw hp
        go_wp2_with fail
        refine HBA.out.mono ?_
        rintro e w6 ⟨rfl, hb6⟩
        have HB6 := Lib.hid hb6
        clear hb6
        go_wp2_with fail
        refine (HEN.out _ HB6.out).mono ?_
        rintro e w7 ⟨ls, ao, cq, rfl, hls, hoe, hb7⟩
        obtain ⟨m, hm⟩ : ∃ m, m = (es2.take 1000).length := ⟨_, rfl⟩
        have hmn : m = min 1000 n2 := by rw [hm, List.length_take, HL2.out]
        rw [← hm] at hoe ⊢
        have HMN := Lib.hid hmn
        clear hmn
        have hchk : ChkI w6 ls ao m cq w7 := ⟨hb7, hoe.row, fun l hl => ⟨_, hoe.own l hl⟩⟩
        have hlsl := hoe.len
        have hat : ∀ (j : Nat) l, ls[j]? = some l → ∃ e, es2[j]? = some e ∧ l.ix = e.ix ∧ l.tm = e.tm := fun j l hj => by
          obtain ⟨u, hu, hsay⟩ := says_at hls j l hj
          rw [List.getElem?_take] at hu
          split at hu
          · simp only [En.says, Prod.mk.injEq] at hsay
            exact ⟨u, hu, hsay.1, hsay.2.1⟩
          · cases hu
        have HCHK := Lib.hid hchk
        have HLSL := Lib.hid hlsl
        have HAT := Lib.hid hat
        clear hls hoe hb7 hm hchk hlsl hat HBA HEN
        go_wp2_with fail
        go_loopw [16, 17, 87] (fun vi vt i wz => ∃ (j : Nat), i = .int .i64 j ∧ vi = .int .i64 (ix2 + j) ∧ vt = .int .i64 (tAt tm2 es2 j) ∧ j ≤ m ∧ Hid (ChkI w6 ls ao m cq wz)) (fun _ _ i _ => m - (intOf i).toNat)
        case atStart => exact ⟨0, rfl, by go_num, rfl, by omega, HCHK.out⟩
        case round =>
          obtain ⟨j, rfl, rfl, rfl, hj, HC⟩ := hrel
          obtain ⟨wz, rfl⟩ : ∃ wz, wz = wr := ⟨_, rfl⟩
          by_cases hjm : j < m
          · obtain ⟨l, hlj⟩ : ∃ l, ls[j]? = some l := ⟨_, List.getElem?_eq_getElem (by rw [HLSL.out]; exact hjm)⟩
            obtain ⟨e, hej, hix, htm⟩ := HAT.out j l hlj
            obtain ⟨b', off', rfl, e0, e1, e2, e3⟩ := en_at (RowN.of_own HC.out.row) HLSL.out j hjm l hlj
            have hei := HS2.out.idx j e hej
            have het := HRI2.out.at hej
            have hts := tAt_succ (tm := tm2) hej
            have hhs := HHAS.out j e hej
            rw [has_at HS2.out hej] at hhs
            rw [← hix, ← htm] at hhs
            rw [← htm] at het hts
            rw [← hix] at hei
            have hjl : (j : Int) < (m : Int) := by omega
            have hjn : j < n2 := by have := HMN.out; omega
            obtain ⟨tA, htA⟩ : ∃ x, x = tAt tm2 es2 j := ⟨_, rfl⟩
            rw [← htA] at het ⊢
            have hw1 : IntKind.i64.wrap (ix2 + (j : Int) + 1) = ix2 + (j : Int) + 1 := by rw [IntKind.wrap_i64] <;> omega
            have hne : (l.ix != ix2 + (j : Int) + 1) = false := by rw [hei]; simp; omega
            have hnt : ¬ l.tm < tA := by omega
            have hbx : Below wz.heap.size wz (wz.alloc (.cells #[.int .i64 l.ix, .int .i64 l.tm, .int .i64 l.kd, .slice l.s.a l.s.len l.s.cap] 32)) := below_alloc (Below.refl _ _) _
            have hX := HC.out.later hbx
            have hh := hhs _ (below_then HB6.out hX.below)
            have hE2 := fun Z (hb : Below (wz.alloc (.cells #[.int .i64 l.ix, .int .i64 l.tm, .int .i64 l.kd, .slice l.s.a l.s.len l.s.cap] 32)).heap.size (wz.alloc (.cells #[.int .i64 l.ix, .int .i64 l.tm, .int .i64 l.kd, .slice l.s.a l.s.len l.s.cap] 32)) Z) => (hb.block wz.heap.size (by rw [World.size_alloc]; omega)).trans (heap_alloc_new wz (.cells #[.int .i64 l.ix, .int .i64 l.tm, .int .i64 l.kd, .slice l.s.a l.s.len l.s.cap] 32))
            have hll : l.s.len ≤ 9223372036854775807 := by
              obtain ⟨bs, ho⟩ := HC.out.own l (List.mem_of_getElem? hlj)
              have := ho.cap
              simp only [maxLen] at this
              omega
            have hlm := List.mem_of_getElem? hlj
            have HX := Lib.hid hX
            have HH := Lib.hid hh
            have HE2 := Lib.hid hE2
            have HLM := Lib.hid hlm
            have HEI := Lib.hid hei
            have HTS := Lib.hid hts
            clear hX hh hE2 hlm hlj hej hix htm hei het hts hhs htA hbx
            go_wp2_with fail
            refine HH.out.mono ?_
            rintro e' w8 ⟨rfl, hb8⟩
            have hC8 := HX.out.later hb8
            have hE8 := HE2.out w8 hb8
            obtain ⟨⟨b0, b1, b2, b3⟩, _⟩ := four_cells hE8
            have HC8 := Lib.hid hC8
            have HE8 := Lib.hid hE8
            clear hb8 hC8 hE8 HX HH HE2 HC
            go_wp2_with fail
            go_loopw [114] (fun i wi => ∃ (q : Nat), i = .int .i64 q ∧ q ≤ l.s.len ∧ Hid (ChkI w6 ls (some ⟨b', off', none⟩) m cq wi) ∧ Hid (wi.heap[wz.heap.size]? = some (.cells #[.int .i64 l.ix, .int .i64 l.tm, .int .i64 l.kd, .slice l.s.a l.s.len l.s.cap] 32 (0, 0)))) (fun i _ => l.s.len - (intOf i).toNat)
            case atStart => exact ⟨0, rfl, by omega, HC8.out, HE8.out⟩
            case round =>
              obtain ⟨q, rfl, hq, HCI, HEI8⟩ := hrel
              clear b0 b1 b2 b3 e0 e1 e2 e3
              obtain ⟨⟨b0, b1, b2, b3⟩, _⟩ := four_cells HEI8.out
              by_cases hql : q < l.s.len
              · obtain ⟨bs, ho⟩ := HCI.out.own l HLM.out
                obtain ⟨g, hg, hg1, hg2⟩ := ho.addr (by omega)
                rw [hg] at b3 ho
                have hqi : (q : Int) < (l.s.len : Int) := by omega
                have hfr := World.ownsRow.frozenAt ho q
                have hce := ho.row.2 q hql
                obtain ⟨g2, off2, hg3, hce⟩ := hce
                injection hg3 with hg3
                injection hg3 with hg3 hg4 _
                subst hg3 hg4
                rw [Nat.zero_add] at hce
                have hne2 : wz.heap.size ≠ g := fun e => by
                  obtain ⟨g5, cp5, cur5, hv5, _, hh5, _⟩ : ∃ g5 cp5 cur5, Value.slice (some ⟨g, 0, none⟩) l.s.len l.s.cap = .slice (some ⟨g5, 0, none⟩) l.s.len cp5 ∧ True ∧ wr.heap[g5]? = some (.cells cur5 5) ∧ True := by
                    rcases ho.2 with ⟨hv, h0⟩ | ⟨g5, cp5, cur5, hv, _, hh, _⟩
                    · cases hv
                    · exact ⟨g5, cp5, cur5, hv, trivial, hh, trivial⟩
                  injection hv5 with hv5 _ _
                  injection hv5 with hv5
                  injection hv5 with hv5 _ _
                  subst hv5
                  rw [← e, HEI8.out] at hh5
                  injection hh5 with hh5
                  injection hh5 with _ hh6 _
                  exact absurd hh6 (by decide)
                have hC9 : ChkI w6 ls (some ⟨b', off', none⟩) m cq (wr.setCell ⟨g, q, none⟩ (.int .u8 99)) := HCI.out.put ho rfl hg1 99
                have hE9 := set_far (i := q) (v := .int .u8 99) HEI8.out hne2
                have HC9 := Lib.hid hC9
                have HE9 := Lib.hid hE9
                clear hC9 hE9 ho hg
                go_wp2_with fail
                go_roundw
                case rel => exact ⟨q + 1, by go_num, by omega, HC9.out, HE9.out⟩
                case measure => simp [intOf]; omega
              · go_wp2_with fail
                go_roundw
                case rel => exact ⟨j + 1, by go_num, by rw [HEI.out]; go_num, by rw [HTS.out], by omega, HCI.out⟩
                case measure => simp [intOf]; omega
          · have hjme : j = m := by omega
            subst hjme
            have hbz := below_then HB6.out HC.out.below
            obtain ⟨tA, htA⟩ : ∃ x, x = tAt tm2 es2 j := ⟨_, rfl⟩
            have hend : j < 1000 → (ix2 + (j : Int) != li2) = false ∧ (tA != lt2) = false := fun h => by
              have h1 := HLI2.out
              have h2 := HLT2.out
              have h3 := HL2.out
              have hmn := HMN.out
              have hj2 : n2 = j := by omega
              subst hj2
              rw [h3] at h1 h2
              refine ⟨by rw [h1]; simp, ?_⟩
              rw [htA, h2]
              simp
            rw [← htA]
            have hla := HLA.out _ hbz
            have HLAZ := Lib.hid hla
            have HBZ := Lib.hid hbz
            clear htA hla hbz HC HLA HLI2 HLT2 HHAS
            by_cases hj1 : j < 1000
            · obtain ⟨q1, q2⟩ := hend hj1
              have hj2 : (j : Int) < 1000 := by omega
              clear hend
              go_wp2_with fail
              refine HLAZ.out.mono ?_
              rintro e' w8 ⟨rfl, hb8⟩
              have HB8 := Lib.hid (below_then HBZ.out hb8)
              clear hb8
              go_wp2_with fail
              go_roundw
              case rel =>
                obtain ⟨ix, tm, c, es, ae, n, cp, h1, h2, h3, h4, h5, h6, h7⟩ := HIc.out
                exact ⟨k + 1, by go_num, by omega, ix, tm, c, es, ae, n, cp, h1.below HB8.out, h2, h3, h4, h5, below_then h6 HB8.out, Nat.le_trans h7 HB8.out.size⟩
              case measure => simp [intOf]; omega
            · have hj2 : ¬ (j : Int) < 1000 := by omega
              clear hend
              go_wp2_with fail
              refine HLAZ.out.mono ?_
              rintro e' w8 ⟨rfl, hb8⟩
              have HB8 := Lib.hid (below_then HBZ.out hb8)
              clear hb8
              go_wp2_with fail
              go_roundw
              case rel =>
                obtain ⟨ix, tm, c, es, ae, n, cp, h1, h2, h3, h4, h5, h6, h7⟩ := HIc.out
                exact ⟨k + 1, by go_num, by omega, ix, tm, c, es, ae, n, cp, h1.below HB8.out, h2, h3, h4, h5, below_then h6 HB8.out, Nat.le_trans h7 HB8.out.size⟩
              case measure => simp [intOf]; omega
    · obtain ⟨_, _, _, _, _, _, _, _, _, _, _, _, hbw, _⟩ := HI.out
      have HBW := Lib.hid hbw
      clear hbw
      go_wp2_with fail
      go_ret
      exact ⟨rfl, HBW.out⟩
end Go.Proofs.Ytpaommkjafdghaa
