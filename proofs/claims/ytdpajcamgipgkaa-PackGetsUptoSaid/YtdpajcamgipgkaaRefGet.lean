/- The document's Get. -/
import Derived.Test.YtdpajcamgipgkaaRefOne
import Derived.Test.YtdpajcamgipgkaaReads
namespace Go.Proofs.Ytdpajcamgipgkaa
open Go.RowKit

/-- these values, the document's, in memory of the call's own -/
structure OwnR (w : World) (base : Nat) (vs : List Vl) (ao : Option Addr) (n cap : Nat) : Prop where
  len : vs.length = n
  row : w.ownsRow base 81 5 (.slice ao n cap) n (vs.flatMap Vl.cells)
  own : ∀ v ∈ vs, Own8 w base v.s.a v.s.len v.s.cap v.s.bs
theorem OwnR.nil (w : World) (base : Nat) : OwnR w base [] none 0 0 := ⟨rfl, World.ownsRow_nil w base _ 5, fun v h => by cases h⟩
theorem OwnR.keep {w w' : World} {base : Nat} {vs : List Vl} {ao : Option Addr} {n cap : Nat} (h : OwnR w base vs ao n cap) (hk : ∀ g, base ≤ g → g < w.heap.size → w'.heap[g]? = w.heap[g]?) : OwnR w' base vs ao n cap :=
  ⟨h.len, own_keep h.row fun g hg hl => hk g (h.row.lt g hg).1 hl, fun v hv => own_keep (h.own v hv) fun g hg hl => hk g ((h.own v hv).lt g hg).1 hl⟩
theorem OwnR.snoc {w w' : World} {base : Nat} {vs : List Vl} {ao ao' : Option Addr} {n cap cap' : Nat} {v : Vl} (h : OwnR w base vs ao n cap) (hv : Own8 w base v.s.a v.s.len v.s.cap v.s.bs)
    (hrow : w'.ownsRow base 81 5 (.slice ao' (n + 1) cap') (n + 1) (vs.flatMap Vl.cells ++ v.cells)) (hg : w.grownBy w' (Value.ownBlock (.slice ao n cap))) : OwnR w' base (vs ++ [v]) ao' (n + 1) cap' := by
  have k : ∀ u : Vl, Own8 w base u.s.a u.s.len u.s.cap u.s.bs → Own8 w' base u.s.a u.s.len u.s.cap u.s.bs := fun u hu => own_keep hu fun g hb hl => hg.block g hl fun e => own_apart hu h.row (by decide) g hb e.symm
  refine ⟨by rw [List.length_append, h.len]; rfl, ?_, fun u hu => ?_⟩
  · rw [List.flatMap_append]
    simpa using hrow
  · rcases List.mem_append.1 hu with hu | hu
    · exact k u (h.own u hu)
    · rw [List.mem_singleton] at hu
      subst hu
      exact k u hv
theorem OwnR.ok {w : World} {base : Nat} {vs : List Vl} {ao : Option Addr} {n cap : Nat} (h : OwnR w base vs ao n cap) (hf : ∀ v ∈ vs, v.pv.fit) : ∀ v ∈ vs, Vl.ok w v := fun v hv => by
  have h1 := h.own v hv
  have h2 := hf v hv
  exact ⟨⟨h1.row, h1.cap.1, h1.cap.2, h1.nocap⟩, h2.x, h2.n, by have := h2.k; simp only [Vl.pv] at this; omega⟩

theorem pv_pos (p : Pv) : 0 < p.bytes.length := by
  unfold Pv.bytes
  split
  · exact numBytes_pos _
  · split
    · rw [key_len]; decide
    · split
      · have := numBytes_pos p.bs.length
        rw [List.length_append]; omega
      · simp

theorem row_if {w : World} {ab : Option Addr} {nb cb cnt : Nat} {r : List UInt8} (h : Row8 w (Option.map (fun x => x.add cnt) ab) (nb - cnt) r) (hle : nb ≤ cb) : Row8 w (if cb = cnt then ab else Option.map (fun x => x.add cnt) ab) (nb - cnt) r := by
  split
  · have h0 : nb - cnt = 0 := by omega
    have h1 := h.1
    rw [h0] at h1 ⊢
    rw [List.eq_nil_of_length_eq_zero h1]
    exact Row8.nil _ _
  · exact h

/-- One, whatever the kind -/
def OneP (w : World) (nb : Nat) (o : Option (Pv × List UInt8)) (e : Ending) (w' : World) : Prop :=
  (o = none → ∃ p, OneAs w p 0 e w') ∧ ∀ p r, o = some (p, r) → OneAs w p (nb - r.length) e w'
theorem one_any (a : Option Addr) (len cap : Nat) (bs : List UInt8) (kind : Int) (w : World) (hr : Row8 w a len bs) (hlc : len ≤ cap) (hcm : cap ≤ maxLen) (hk : 1 ≤ kind ∧ kind ≤ 4) :
    Calls Try.prog 63 #[.slice a len cap, .int .i64 kind] w (OneP w len (getVal kind bs)) := by
  have hbl := hr.1
  have : kind = 1 ∨ kind = 2 ∨ kind = 3 ∨ kind = 4 := by omega
  rcases this with rfl | rfl | rfl | rfl
  · refine (one_1 a len cap bs w hr (Nat.le_trans hlc hcm)).mono fun e w' h => ?_
    cases hg : getNum bs with
    | none =>
      have e : getVal 1 bs = none := by simp [getVal, hg]
      rw [numK_no hg] at h
      rw [e]
      exact ⟨fun _ => ⟨_, h⟩, fun _ _ h => by cases h⟩
    | some q =>
      obtain ⟨n, r⟩ := q
      have e : getVal 1 bs = some (⟨1, n, 0, [], false⟩, r) := by simp [getVal, hg]
      rw [numK_get hg, hbl] at h
      rw [e]
      refine ⟨(fun h => by cases h), fun p r' h' => ?_⟩
      injection h' with h'
      injection h' with h1 h2
      subst h1 h2
      exact h
  · refine (one_2 a len cap bs w hr).mono fun e w' h => ?_
    cases hg : getKey bs with
    | none =>
      have e : getVal 2 bs = none := by simp [getVal, hg]
      rw [hg] at h
      rw [e]
      exact ⟨fun _ => ⟨_, h⟩, fun _ _ h => by cases h⟩
    | some q =>
      obtain ⟨n, r⟩ := q
      have e : getVal 2 bs = some (⟨2, 0, n, [], false⟩, r) := by simp [getVal, hg]
      rw [hg] at h
      rw [e]
      refine ⟨(fun h => by cases h), fun p r' h' => ?_⟩
      injection h' with h'
      injection h' with h1 h2
      subst h1 h2
      have hb := (bytes_getVal (kind := 2) (by omega) e).2.1
      have hl : len - r.length = 8 := by
        have hbb : (Pv.bytes ⟨2, 0, n, [], false⟩).length = 8 := key_len _
        rw [← hbl, hb, List.length_append, hbb]
        omega
      rw [hl]
      exact h
  · refine (one_3 a len cap bs w hr hlc hcm).mono fun e w' h => ?_
    cases hg : getBytes bs with
    | none =>
      have e : getVal 3 bs = none := by simp [getVal, hg]
      rw [hg] at h
      rw [e]
      exact ⟨fun _ => ⟨_, h⟩, fun _ _ h => by cases h⟩
    | some q =>
      obtain ⟨n, r⟩ := q
      have e : getVal 3 bs = some (⟨3, 0, 0, n, false⟩, r) := by simp [getVal, hg]
      rw [hg] at h
      rw [e]
      refine ⟨(fun h => by cases h), fun p r' h' => ?_⟩
      injection h' with h'
      injection h' with h1 h2
      subst h1 h2
      exact h
  · refine (one_4 a len cap bs w hr).mono fun e w' h => ?_
    cases hg : getFlag bs with
    | none =>
      have e : getVal 4 bs = none := by simp [getVal, hg]
      rw [hg] at h
      rw [e]
      exact ⟨fun _ => ⟨_, h⟩, fun _ _ h => by cases h⟩
    | some q =>
      obtain ⟨n, r⟩ := q
      have e : getVal 4 bs = some (⟨4, 0, 0, [], n⟩, r) := by simp [getVal, hg]
      rw [hg] at h
      rw [e]
      refine ⟨(fun h => by cases h), fun p r' h' => ?_⟩
      injection h' with h'
      injection h' with h1 h2
      subst h1 h2
      have hb := flag_getFlag hg
      have hl : len - r.length = 1 := by
        rw [← hbl, hb, List.length_cons]
        omega
      rw [hl]
      exact h

/-- It returns these values, in memory of its own, and a code. -/
def RetGetR (w : World) (r : List Pv × Nat) (e : Ending) (w' : World) : Prop :=
  ∃ vs ao n cap, e = .returned (.tuple #[.slice ao n cap, .int .i64 (r.2 : Nat)]) ∧ vs.map Vl.pv = r.1 ∧ OwnR w' w.heap.size vs ao n cap ∧ Below w.heap.size w w'
theorem RetGetR.no {w w' : World} {r : List Pv × Nat} {c : Nat} (hr : r = ([], c)) (hb : Below w.heap.size w w') {e : Ending} (he : e = .returned (.tuple #[.slice none 0 0, .int .i64 (c : Nat)])) : RetGetR w r e w' := by
  subst hr
  exact ⟨[], none, 0, 0, he, rfl, OwnR.nil _ _, hb⟩

set_option maxRecDepth 100000 in
set_option maxHeartbeats 6400000 in
theorem refGet_any (a : Option Addr) (len cap : Nat) (bs : List UInt8) (az : Option Addr) (nz cz : Nat) (zs : List Int) (w : World) (hr : Row8 w a len bs) (hlc : len ≤ cap) (hcm : cap ≤ maxLen)
    (hrow : RowN w az 1 nz (cellsI zs)) (hnz : nz ≤ 1000000000) :
    Calls Try.prog 38 #[.slice a len cap, .slice az nz cz] w (RetGetR w (getV zs bs)) := by
  have hstf := store_float
  have hl : zs.length = nz := by have := hrow.1; rw [cellsI_len] at this; omega
  have HR := Lib.hid hr
  have HROW := Lib.hid hrow
  have HL := Lib.hid hl
  clear hr hrow hl
  go_enter Try.func38, Try.ntmps38
  go_wp2_with fail
  go_loopw [6] (fun i wr => ∃ k : Nat, i = .int .i64 k ∧ k ≤ nz ∧ Hid ((zs.take k).any badKind = false) ∧ SameW w wr) (fun i _ => nz - (intOf i).toNat)
  case atStart => exact ⟨0, rfl, by omega, rfl, rfl⟩
  case round =>
    obtain ⟨k, rfl, hk, HA, hsame⟩ := hrel
    have hsame : w = wr := hsame
    subst hsame
    by_cases hlt : k < nz
    · obtain ⟨b, off, z, rfl, hz, hcell⟩ := cellI_at HROW.out k hlt
      have hkl : (k : Int) < (nz : Int) := by omega
      cases hb : badKind z with
      | true =>
        have ha : getV zs bs = ([], 1) := by rw [getV, if_pos (List.any_eq_true.2 ⟨z, List.mem_of_getElem? hz, hb⟩)]
        have HAA := Lib.hid ha
        have hcs : z < 1 ∨ ¬ z < 1 ∧ 4 < z := by simp [badKind] at hb; omega
        clear ha hb hz
        rcases hcs with q1 | ⟨q1, q2⟩
        all_goals
          go_wp2_with fail
          go_ret2
          exact RetGetR.no HAA.out (Below.refl _ _) rfl
      | false =>
        have ha : (zs.take (k + 1)).any badKind = false := by
          rw [List.take_add_one, hz]
          simp [HA.out, hb]
        have hg := badKind_no hb
        have q1 : ¬ z < 1 := by omega
        have q2 : ¬ 4 < z := by omega
        have HAA := Lib.hid ha
        clear ha hb hz hg
        go_wp2_with fail
        go_roundw
        case rel => exact ⟨k + 1, by go_num, by omega, HAA, rfl⟩
        case measure => simp [intOf]; omega
    · have hke : k = nz := by omega
      subst hke
      have hall : zs.any badKind = false := by have := HA.out; rw [List.take_of_length_le (by rw [HL.out]; exact Nat.le_refl _)] at this; exact this
      have hgood : ∀ z ∈ zs, 1 ≤ z ∧ z ≤ 4 := fun z hz => badKind_no (by
        cases h : badKind z with
        | false => rfl
        | true => rw [List.any_eq_true.2 ⟨z, hz, h⟩] at hall; cases hall)
      have hgv : getV zs bs = match getAcc zs bs [] with
        | some (ps, []) => (ps, 0)
        | _ => ([], 30) := by rw [getV, if_neg (by simp [hall])]; rfl
      have HGOOD := Lib.hid hgood
      have HGV := Lib.hid hgv
      clear hall hgood hgv HA
      go_wp2_with fail
      go_loopw [0, 7, 8] (fun s o i wr => ∃ (j : Nat) (rest : List UInt8) (ab : Option Addr) (nb cb : Nat) (vs : List Vl) (ao : Option Addr) (co : Nat), i = .int .i64 j ∧ j ≤ k ∧ s = .slice ab nb cb ∧ o = .slice ao j co ∧ Row8 w ab nb rest ∧ nb ≤ cb ∧ cb ≤ maxLen ∧
        Hid (getAcc (zs.drop j) rest (vs.map Vl.pv) = getAcc zs bs []) ∧ OwnR wr w.heap.size vs ao j co ∧ Below w.heap.size w wr) (fun _ _ i _ => k - (intOf i).toNat)
      case atStart => exact ⟨0, bs, a, len, cap, [], _, 0, rfl, by omega, rfl, rfl, HR.out, hlc, hcm, rfl, ⟨rfl, World.ownsRow_lit w #[] 0 (Nat.le_refl _) (by decide) rfl, fun v h => by cases h⟩, (Below.refl _ _).alloc (Nat.le_refl _) _⟩
      case round =>
        obtain ⟨j, rest, ab, nb, cb, vs, ao, co, rfl, hj, rfl, rfl, hrb, hnb, hcb, HA, hO, hbw⟩ := hrel
        have hzw := hbw.size
        have HRB := Lib.hid hrb
        have HO := Lib.hid hO
        have HBW := Lib.hid hbw
        by_cases hlt : j < k
        · obtain ⟨b, off, z, rfl, hz, hcell⟩ := cellI_at (HROW.out.below hbw) j hlt
          have hd : zs.drop j = z :: zs.drop (j + 1) := by
            obtain ⟨hlz, rfl⟩ := List.getElem?_eq_some_iff.1 hz
            exact List.drop_eq_getElem_cons hlz
          have hzg := HGOOD.out z (List.mem_of_getElem? hz)
          have hone := one_any ab nb cb rest z wr (hrb.below hbw) hnb hcb hzg
          have HONE := Lib.hid hone
          have HD := Lib.hid hd
          have hjl : (j : Int) < (k : Int) := by omega
          have hbl := hrb.1
          cases hv : getVal z rest with
          | none =>
            have he : getV zs bs = ([], 30) := by rw [HGV.out, ← HA.out, HD.out, getAcc, hv]
            have HE := Lib.hid he
            rw [hv] at HONE
            clear hd hz hrb hO hbw hone hzg he hv hbl
            go_wp2_with fail
            refine HONE.out.mono ?_
            rintro e w2 ⟨ho, _⟩
            obtain ⟨p, aq, nq, cq, rfl, hown, hb2⟩ := ho rfl
            have hbw2 := HBW.out.trans (hb2.mono hzw)
            have hz2 := hbw2.size
            clear hown hb2
            go_wp2_with fail
            go_ret2
            exact RetGetR.no HE.out (hbw2.alloc hz2 _) rfl
          | some q =>
            obtain ⟨p, r⟩ := q
            have he : getAcc (zs.drop (j + 1)) r (vs.map Vl.pv ++ [p]) = getAcc zs bs [] := by rw [← HA.out, HD.out, getAcc, hv]
            obtain ⟨hpk, hrest, hfine⟩ := bytes_getVal hzg hv
            obtain ⟨cnt, hcnt⟩ : ∃ cnt, cnt = p.bytes.length := ⟨_, rfl⟩
            have hc1 : nb - r.length = cnt := by rw [← hbl, hrest, List.length_append, hcnt]; omega
            have hc2 : cnt ≤ nb := by omega
            have hc0 : 0 < cnt := by rw [hcnt]; exact pv_pos p
            have hdr : r = rest.drop cnt := by rw [hrest, hcnt, List.drop_left]
            have hrow' : Row8 w (Option.map (fun x => x.add cnt) ab) (nb - cnt) r := by rw [hdr]; exact hrb.drop cnt hc2
            have HE := Lib.hid he
            have HROW' := Lib.hid hrow'
            have HC1 := Lib.hid hc1
            rw [hv] at HONE
            have i0 : ((cnt : Int) == 0) = false := by simp; omega
            have i1 : (0 : Int) ≤ (cnt : Int) := by omega
            have i2 : (cnt : Int) ≤ (nb : Int) := by omega
            have i3 : (nb : Int) ≤ (cb : Int) := by omega
            clear hd hz hrb hO hbw hone hzg he hv hbl hpk hrest hfine hcnt hc1 hdr hrow'
            go_wp2_with fail
            refine HONE.out.mono ?_
            rintro e w2 ⟨_, ho⟩
            obtain ⟨aq, nq, cq, rfl, hown, hb2⟩ := ho p r rfl
            rw [HC1.out]
            have hbw2 := HBW.out.trans (hb2.mono hzw)
            have hz2 := hb2.size
            have HB2 := Lib.hid hbw2
            have HOWN := Lib.hid hown
            have hO2 : ∀ o o2, OwnR ((w2.alloc o).alloc o2) w.heap.size vs ao j co := fun o o2 => HO.out.keep fun g hb hl => (heap_alloc_old _ _ (by rw [World.size_alloc]; omega)).trans ((heap_alloc_old _ _ (by omega)).trans (hb2.block g hl))
            have HO2 := Lib.hid hO2
            clear hbw2 hown hb2 hO2
            go_wp2_with (at_builtin; refine wpList_appendRef rfl (.tmp 47) (.tmp 49) rfl w.heap.size ao j co (vs.flatMap Vl.cells) rfl (HO2.out _ _).row (some ⟨w2.heap.size + 1, 0, none⟩) 1 1 (Vl.cells ⟨p.kind, p.n, p.x, ⟨aq, nq, cq, p.bs⟩, p.on⟩) rfl (RowN.new2 _ _ _ _ 5 1 _ _ rfl rfl rfl) (fun h => by cases h) (cells_one5 _) (by omega) (by rw [World.size_alloc, World.size_alloc]; omega) (j + 1) rfl ?_; intro ao3 cap3 w3 hown3 hg3 hat3)
            go_roundw
            case rel =>
              refine ⟨j + 1, r, _, nb - cnt, cb - cnt, vs ++ [⟨p.kind, p.n, p.x, ⟨aq, nq, cq, p.bs⟩, p.on⟩], ao3, cap3, by go_num, by omega, rfl, rfl, row_if HROW'.out hnb, by omega, by omega, ?_, ?_, ?_⟩
              · show _ = _
                rw [List.map_append]
                exact HE.out
              · exact (HO2.out _ _).snoc (own_more (own_keep HOWN.out fun g hg hl => (heap_alloc_old _ _ (by rw [World.size_alloc]; omega)).trans (heap_alloc_old _ _ hl)) hzw) hown3 hg3
              · exact ((HB2.out.alloc (Nat.le_trans hzw hz2) _).alloc (by rw [World.size_alloc]; omega) _).grown hg3 (by rw [World.size_alloc, World.size_alloc]; omega) (fun g hg => (HO.out.row.lt g hg).1)
            case measure => simp [intOf]; omega
        · have hke : j = k := by omega
          subst hke
          have hd : zs.drop j = [] := List.drop_of_length_le (by rw [HL.out]; exact Nat.le_refl _)
          have hacc : getAcc zs bs [] = some (vs.map Vl.pv, rest) := by rw [← HA.out, hd, getAcc]
          have hbl := hrb.1
          have hgv : getV zs bs = match (some (vs.map Vl.pv, rest) : Option (List Pv × List UInt8)) with
            | some (ps, []) => (ps, 0)
            | _ => ([], 30) := by rw [HGV.out, hacc]
          by_cases h0 : nb = 0
          · subst h0
            have hrn : rest = [] := List.eq_nil_of_length_eq_zero hbl
            rw [hrn] at hgv
            have HE := Lib.hid hgv
            clear hd hacc hbl hgv hrn hrb hO hbw
            go_wp2_with fail
            go_ret2
            rw [HE.out]
            exact ⟨vs, ao, j, co, rfl, rfl, HO.out, HBW.out⟩
          · have hi : (0 : Int) < (nb : Int) := by omega
            have hgv' : getV zs bs = ([], 30) := by
              rw [hgv]
              cases rest with
              | nil => simp at hbl; omega
              | cons c t => rfl
            have HE := Lib.hid hgv'
            clear hd hacc hbl hgv hgv' hrb hO hbw
            go_wp2_with fail
            go_ret2
            exact RetGetR.no HE.out HBW.out rfl
end Go.Proofs.Ytdpajcamgipgkaa
