/- A log of entries whose terms rise. -/
import Derived.Test.YtpaommkjafdghaaAlive
namespace Go.Proofs.Ytpaommkjafdghaa
open Go.RowKit

theorem and_mask (x : Int) (m : Nat) (hm : m < 4611686018427387904) : 0 ≤ bits .and .i64 x m ∧ bits .and .i64 x m ≤ m := by
  have h1 : ((BitVec.ofInt IntKind.i64.bits x) &&& (BitVec.ofInt IntKind.i64.bits (m : Int))).toNat ≤ m := by
    rw [BitVec.toNat_and]
    refine Nat.le_trans Nat.and_le_right ?_
    rw [BitVec.toNat_ofInt]
    have h64 : (2 ^ IntKind.i64.bits : Nat) = 18446744073709551616 := by decide
    rw [h64]
    omega
  unfold bits
  simp only
  rw [IntKind.wrap_i64] <;> omega

theorem LogAt.stepBelow {w w' : World} {base N : Nat} {ix tm : Int} {c : Cf} {es : List En} {ae ae' : Option Addr} {n cap : Nat} (h : LogAt w base N ix tm c es ae n cap) (hs : NStep w w' N ae ae') (hB : base ≤ w.heap.size) : Below base w w' :=
  ⟨hs.os, hs.tape, hs.output, hs.size, fun k hk => hs.block k (by omega) (by have := h.lo; omega) (fun e => by rw [own_addr ae 0 0 n cap] at e; have := (h.row.lt k e).1; omega)⟩

theorem says_at {us vs : List En} (h : vs.map En.says = us.map En.says) (k : Nat) (v : En) (hv : vs[k]? = some v) : ∃ u, us[k]? = some u ∧ v.says = u.says := by
  have h1 : (vs.map En.says)[k]? = some v.says := by rw [List.getElem?_map, hv]; rfl
  rw [h, List.getElem?_map] at h1
  cases hu : us[k]? with
  | none => rw [hu] at h1; cases h1
  | some u =>
    rw [hu] at h1
    injection h1 with h1
    exact ⟨u, rfl, h1.symm⟩
theorem Sound.append {ix tm : Int} {es us vs : List En} (h : Sound ix tm es) (h0 : appendOf (lastOf ix tm es).1 (lastOf ix tm es).2 us = 0) (hs : vs.map En.says = us.map En.says) : Sound ix tm (es ++ vs) :=
  ⟨h.rx, h.rt, fun k e he => by
    by_cases hk : k < es.length
    · rw [List.getElem?_append_left hk] at he
      exact h.idx k e he
    · rw [List.getElem?_append_right (by omega)] at he
      obtain ⟨u, hu, hsay⟩ := says_at hs _ e he
      have := (appendOf_idx us _ _ h0 _ u hu).1
      rw [h.last] at this
      have hx : e.ix = u.ix := congrArg Prod.fst hsay
      omega⟩

/-- an entry in a new block -/
theorem en_new {w : World} {base N : Nat} {ix tm : Int} {c : Cf} {es : List En} {ae : Option Addr} {n cap : Nat} (h : LogAt w base N ix tm c es ae n cap) (u : En) (hu : Sl.ok w u.s) (hp : SlP (Off N ae) u.s) : EnAt (w.alloc (.cells #[.int .i64 u.ix, .int .i64 u.tm, .int .i64 u.kd, .slice u.s.a u.s.len u.s.cap] 32)) (Off N ae) [u] (some ⟨w.heap.size, 0, none⟩) 1 :=
  ⟨rfl, RowN.of_block (heap_alloc_new w _) rfl rfl, fun v hv => by
    rw [List.mem_singleton] at hv
    subst hv
    exact ⟨hu.below (below_alloc (Below.refl _ _) _), hp⟩, fun b off e _ => by
    injection e with e
    injection e with e1 _ _
    subst e1
    refine ⟨by have := lt_of_block h.cell; omega, fun e => ?_⟩
    rw [own_addr ae 0 0 n cap] at e
    have := (h.row.lt _ e).2
    omega⟩

set_option maxRecDepth 100000 in
set_option maxHeartbeats 6400000 in
theorem made_any (a : Option Addr) (len cap : Nat) (zs : List Int) (w : World) (hr : RowN w a 1 len (cellsZ zs)) (hlc : len ≤ cap) (hm : cap ≤ maxLen) :
    Calls Try.prog 20 #[.slice a len cap] w fun e w' => ∃ base N c es ae n cp, e = .returned (.pointer (some ⟨N, 0, none⟩)) ∧ LogAt w' base N 0 0 c es ae n cp ∧ Sound 0 0 es ∧ n ≤ 30 ∧ Below w.heap.size w w' := by
  have hlen : len ≤ 9223372036854775807 := by simp only [maxLen] at hm; omega
  have HR := Lib.hid hr
  clear hr
  go_enter Try.func20, Try.ntmps20
  go_wp2_with fail
  refine (first_any _).mono ?_
  rintro e w1 ⟨c0, rfl, hs0, hv0, hl0, hb1⟩
  have hln : c0.v.len = 2 ∧ c0.l.len = 0 := by
    have h1 := hv0.len
    have h2 := hl0.len
    simp only [Cf.says, Prod.mk.injEq] at hs0
    rw [hs0.1] at h1
    rw [hs0.2] at h2
    exact ⟨h1.symm, h2.symm⟩
  have hnew := rnew_any 0 0 c0 w1 (Cf.ok_of_own hv0 hl0) (by omega)
  have HNEW := Lib.hid hnew
  have HB1 := Lib.hid hb1
  clear hnew hb1 hs0 hv0 hl0 hln
  go_wp2_with fail
  refine HNEW.out.mono ?_
  rintro e w2 ⟨N, c1, rfl, hL2, hs1, hb2⟩
  rw [show clampN 0 = 0 from by decide] at hL2
  have hbw2 := below_then HB1.out hb2
  have hz01 := HB1.out.size
  have hz12 := hb2.size
  have HL2 := Lib.hid hL2
  have HB2 := Lib.hid hbw2
  clear hL2 hs1 hb2 hbw2
  go_wp2_with fail
  go_loopw [12] (fun i wr => ∃ (k n cp : Nat) (es : List En) (ae : Option Addr), i = .int .i64 k ∧ k ≤ len ∧ n ≤ k ∧ n ≤ 30 ∧ Hid (LogAt wr w1.heap.size N 0 0 c1 es ae n cp) ∧ Hid (Sound 0 0 es) ∧ Hid (Below w.heap.size w wr) ∧ w1.heap.size ≤ wr.heap.size) (fun i _ => len - (intOf i).toNat)
  case atStart => exact ⟨0, 0, 0, [], none, rfl, by omega, by omega, by omega, HL2.out, ⟨by omega, by omega, fun k e he => by cases he⟩, HB2.out, hz12⟩
  case round =>
    obtain ⟨k, n, cp, es, ae, rfl, hk, hnk, hn, HL, HS, HBW, hzw⟩ := hrel
    by_cases hlt : k < len
    · obtain ⟨b, off, x, rfl, hxk, hcell⟩ := cellZ_at (HR.out.below HBW.out) k hlt
      have hkl : (k : Int) < (len : Int) := by omega
      clear hxk
      by_cases hk30 : k < 30
      · have hk30' : (k : Int) < 30 := by omega
        have hl := last_any w1.heap.size N 0 0 c1 es ae n cp wr HL.out (by omega)
        have hla := HS.out.last
        have hap := fun (t : Int) (X : World) (hX : Below wr.heap.size wr X) (g : Nat) (hg : EnAt X (Off N ae) [⟨(lastOf 0 0 es).1 + 1, t, 0, ⟨none, 0, 0, []⟩⟩] (some ⟨g, 0, none⟩) 1) => append_any w1.heap.size N 0 0 c1 es ae n cp (some ⟨g, 0, none⟩) 1 1 [⟨(lastOf 0 0 es).1 + 1, t, 0, ⟨none, 0, 0, []⟩⟩] X (HL.out.below hX) HS.out (by omega) hg
        have hso := fun t vs h0 hs => HS.out.append (us := [⟨(lastOf 0 0 es).1 + 1, t, 0, ⟨none, 0, 0, []⟩⟩]) (vs := vs) h0 hs
        obtain ⟨u, hu⟩ : ∃ u, u = lastOf 0 0 es := ⟨_, rfl⟩
        rw [← hu] at hl hla hap hso
        obtain ⟨li, lt⟩ := u
        simp only at hl hla hap hso
        rw [HL.out.len] at hla
        have hli : li = (n : Int) := by omega
        subst hli
        have hw1 : IntKind.i64.wrap ((n : Int) + 1) = (n : Int) + 1 := by rw [IntKind.wrap_i64] <;> omega
        have HLA := Lib.hid hl
        have HAP := Lib.hid hap
        have HSO := Lib.hid hso
        clear hl hla hap hso hu
        go_wp2_with fail
        refine HLA.out.mono ?_
        rintro e w3 ⟨rfl, hb3⟩
        go_wp2_with fail
        obtain ⟨tt, htt⟩ : ∃ tt, tt = wrap64 (lt + bits .and .i64 x 1) := ⟨_, rfl⟩
        rw [← htt]
        clear htt
        have hL3 := HL.out.below hb3
        have hbX : Below wr.heap.size wr (w3.alloc (.cells #[.int .i64 ((n : Int) + 1), .int .i64 tt, .int .i64 0, .slice none 0 0] 32)) := below_alloc hb3 _
        have hen := en_new hL3 ⟨(n : Int) + 1, tt, 0, ⟨none, 0, 0, []⟩⟩ ⟨Row8.nil _ _, Nat.le_refl _, Nat.zero_le _, fun _ => rfl⟩ (fun _ _ e => by cases e)
        refine (HAP.out tt _ hbX _ hen).mono ?_
        have hzX := hbX.size
        obtain ⟨X, hX⟩ : ∃ X, X = w3.alloc (.cells #[.int .i64 ((n : Int) + 1), .int .i64 tt, .int .i64 0, .slice none 0 0] 32) := ⟨_, rfl⟩
        rw [← hX] at hbX hzX ⊢
        have HBX := Lib.hid hbX
        clear hX hen hL3 hb3 hbX
        rintro e w4 ⟨rfl, hne0, h0⟩
        have HNE := Lib.hid hne0
        have H0 := Lib.hid h0
        have hso := fun vs h0 hs => HSO.out tt vs h0 hs
        obtain ⟨code, hcode⟩ : ∃ code, code = appendOf (n : Int) lt [⟨(n : Int) + 1, tt, 0, ⟨none, 0, 0, []⟩⟩] := ⟨_, rfl⟩
        rw [← hcode] at HNE H0 hso
        have HSO2 := Lib.hid hso
        clear hne0 h0 hcode hso
        go_wp2_with fail
        go_roundw
        case rel =>
          by_cases hc : code = 0
          · obtain ⟨vs, ae', cp', hsay, hL4, hst, -⟩ := H0.out hc
            have hz4 := hst.size
            have hb14 := (HL.out.below HBX.out).stepBelow hst (by omega)
            exact ⟨k + 1, n + 1, cp', es ++ vs, ae', by go_num, by omega, by omega, by omega, hL4, HSO2.out vs hc hsay, (below_then HBW.out HBX.out).trans (hb14.mono hz01), by omega⟩
          · have hb4 := below_then HBX.out (HNE.out hc)
            have hz4 := hb4.size
            exact ⟨k + 1, n, cp, es, ae, by go_num, by omega, by omega, hn, HL.out.below hb4, HS, below_then HBW.out hb4, by omega⟩
        case measure => simp [intOf]; omega
      · have hk30' : ¬ (k : Int) < 30 := by omega
        go_wp2_with fail
        go_roundw
        case rel => exact ⟨k + 1, n, cp, es, ae, by go_num, by omega, by omega, hn, HL, HS, HBW, hzw⟩
        case measure => simp [intOf]; omega
    · go_wp2_with fail
      go_ret
      exact ⟨_, N, c1, es, ae, n, cp, rfl, HL.out, HS.out, hn, HBW.out⟩
end Go.Proofs.Ytpaommkjafdghaa
