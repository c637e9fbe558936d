/- The document's take, and the kinds of what a kind of message names. -/
import Derived.Test.YtcejamblndilbaaDoc2
namespace Go.Proofs.Ytcejamblndilbaa
open Go.RowKit

def goodK (z : Int) : Prop := z = 1 ∨ z = 3 ∨ z = 4
/-- One, whatever the kind -/
def OneP (w : World) (nb : Nat) (o : Option (Pv × List UInt8)) (e : Ending) (w' : World) : Prop :=
  (o = none → ∃ p, OneAs w p 0 e w') ∧ ∀ p r, o = some (p, r) → OneAs w p (nb - r.length) e w'
theorem one_any (a : Option Addr) (len cap : Nat) (bs : List UInt8) (kind : Int) (w : World) (hr : Row8 w a len bs) (hlc : len ≤ cap) (hcm : cap ≤ maxLen) (hk : goodK kind) :
    Calls Try.prog 88 #[.slice a len cap, .int .i64 kind] w (OneP w len (getVal kind bs)) := by
  have hbl := hr.1
  rcases hk with rfl | rfl | rfl
  · refine (one_1 a len cap bs w hr (Nat.le_trans hlc hcm)).mono fun e w' h => ?_
    rw [getVal_1]
    cases hg : getNum bs with
    | none =>
      rw [numK_no hg] at h
      exact ⟨fun _ => ⟨_, h⟩, fun _ _ h => by cases h⟩
    | some q =>
      obtain ⟨n, r⟩ := q
      rw [numK_get hg, hbl] at h
      refine ⟨(fun h => by cases h), fun p r' h' => ?_⟩
      injection h' with h'
      injection h' with h1 h2
      subst h1 h2
      exact h
  · refine (one_3 a len cap bs w hr hlc hcm).mono fun e w' h => ?_
    rw [getVal_3]
    cases hg : getBytes bs with
    | none =>
      rw [hg] at h
      exact ⟨fun _ => ⟨_, h⟩, fun _ _ h => by cases h⟩
    | some q =>
      obtain ⟨n, r⟩ := q
      rw [hg] at h
      refine ⟨(fun h => by cases h), fun p r' h' => ?_⟩
      injection h' with h'
      injection h' with h1 h2
      subst h1 h2
      exact h
  · refine (one_4 a len cap bs w hr).mono fun e w' h => ?_
    rw [getVal_4]
    cases hg : getFlag bs with
    | none =>
      rw [hg] at h
      exact ⟨fun _ => ⟨_, h⟩, fun _ _ h => by cases h⟩
    | some q =>
      obtain ⟨n, r⟩ := q
      rw [hg] at h
      refine ⟨(fun h => by cases h), fun p r' h' => ?_⟩
      injection h' with h'
      injection h' with h1 h2
      subst h1 h2
      have hb := flag_getFlag hg
      have hl : len - r.length = 1 := by
        rw [← hbl, hb, List.length_cons]
        omega
      rw [hl]
      exact h
/-- what is left is the bytes without a beginning -/
theorem getVal_rest {kind : Int} {bs r : List UInt8} {p : Pv} (hk : goodK kind) (h : getVal kind bs = some (p, r)) : ∃ c, 1 ≤ c ∧ c + r.length = bs.length ∧ r = bs.drop c := by
  rcases hk with rfl | rfl | rfl
  · rw [getVal_1] at h
    cases hg : getNum bs with
    | none => rw [hg] at h; cases h
    | some q =>
      obtain ⟨n, t⟩ := q
      rw [hg] at h
      injection h with h
      injection h with _ h
      subst h
      obtain ⟨h1, _⟩ := num_getNum hg
      exact ⟨(numBytes n).length, numBytes_pos n, by rw [h1, List.length_append], by rw [h1, List.drop_left]⟩
  · rw [getVal_3] at h
    cases hg : getBytes bs with
    | none => rw [hg] at h; cases h
    | some q =>
      obtain ⟨n, t⟩ := q
      rw [hg] at h
      injection h with h
      injection h with _ h
      subst h
      obtain ⟨h1, _⟩ := bytes_getB hg
      have := numBytes_pos (n.length : Nat)
      exact ⟨(lenB n).length, by rw [lenB, List.length_append]; omega, by rw [h1, List.length_append], by rw [h1, List.drop_left]⟩
  · rw [getVal_4] at h
    cases hg : getFlag bs with
    | none => rw [hg] at h; cases h
    | some q =>
      obtain ⟨n, t⟩ := q
      rw [hg] at h
      injection h with h
      injection h with _ h
      subst h
      have h1 := flag_getFlag hg
      exact ⟨1, by omega, by show 1 + t.length = bs.length; rw [h1, List.length_cons]; omega, by rw [h1]; rfl⟩

/-- what take answers -/
def TakeP (w : World) (a : Option Addr) (len : Nat) (bs : List UInt8) (o : Option (List Pv × List UInt8)) (e : Ending) (w' : World) : Prop :=
  Below w.heap.size w w' ∧ (o = none → e = .returned (.tuple #[.slice none 0 0, .slice none 0 0, .bool false])) ∧
  ∀ ps r, o = some (ps, r) → ∃ vs ao n cap ab nb cb, e = .returned (.tuple #[.slice ao n cap, .slice ab nb cb, .bool true]) ∧ vs.map Vl.pv = ps ∧ OwnR w' w.heap.size vs ao n cap ∧ (∀ W, Row8 W a len bs → Row8 W ab nb r) ∧ r.length = nb ∧ nb ≤ cb ∧ cb ≤ maxLen
theorem TakeP.no {w w' : World} {a : Option Addr} {len : Nat} {bs : List UInt8} {o : Option (List Pv × List UInt8)} {e : Ending} (ho : o = none) (hb : Below w.heap.size w w') (he : e = .returned (.tuple #[.slice none 0 0, .slice none 0 0, .bool false])) : TakeP w a len bs o e w' :=
  ⟨hb, fun _ => he, fun ps r h => by rw [ho] at h; cases h⟩

set_option maxRecDepth 100000 in
set_option maxHeartbeats 6400000 in
theorem take_any (a : Option Addr) (len cap : Nat) (bs : List UInt8) (az : Option Addr) (nz cz : Nat) (zs : List Int) (w : World) (hr : Row8 w a len bs) (hlc : len ≤ cap) (hcm : cap ≤ maxLen)
    (hrow : RowN w az 1 nz (cellsZ zs)) (hnz : nz ≤ 100) (hgood : ∀ z ∈ zs, goodK z) :
    Calls Try.prog 50 #[.slice a len cap, .slice az nz cz] w (TakeP w a len bs (takeP zs bs [])) := by
  have hstf := store_float
  have hl : zs.length = nz := by have := hrow.1; rw [cellsZ_len] at this; omega
  have HR := Lib.hid hr
  have HROW := Lib.hid hrow
  have HL := Lib.hid hl
  have HGOOD := Lib.hid hgood
  obtain ⟨res, hres⟩ : ∃ res, res = takeP zs bs [] := ⟨_, rfl⟩
  rw [← hres]
  have HRES := Lib.hid hres
  clear hr hrow hl hgood hres
  go_enter Try.func50, Try.ntmps50
  go_wp2_with fail
  go_loopw [0, 7, 8] (fun s o i wr => ∃ (j : Nat) (rest : List UInt8) (ab : Option Addr) (nb cb : Nat) (vs : List Vl) (ao : Option Addr) (co : Nat), i = .int .i64 j ∧ j ≤ nz ∧ s = .slice ab nb cb ∧ o = .slice ao j co ∧ Hid (∀ W, Row8 W a len bs → Row8 W ab nb rest) ∧ nb ≤ cb ∧ cb ≤ maxLen ∧
    Hid (takeP (zs.drop j) rest (vs.map Vl.pv) = res) ∧ Hid (OwnR wr w.heap.size vs ao j co) ∧ Hid (Below w.heap.size w wr)) (fun _ _ i _ => nz - (intOf i).toNat)
  case atStart => exact ⟨0, bs, a, len, cap, [], _, 0, rfl, by omega, rfl, rfl, fun _ h => h, hlc, hcm, HRES.out.symm, ⟨rfl, World.ownsRow_lit w #[] 0 (Nat.le_refl _) (by decide) rfl, fun v h => by cases h⟩, (Below.refl _ _).alloc (Nat.le_refl _) _⟩
  case round =>
    obtain ⟨j, rest, ab, nb, cb, vs, ao, co, rfl, hj, rfl, rfl, HRB, hnb, hcb, HA, HO, HBW⟩ := hrel
    have hzw := HBW.out.size
    by_cases hlt : j < nz
    · obtain ⟨b, off, z, rfl, hz, hcell⟩ := cellZ_at (HROW.out.below HBW.out) j hlt
      have hd : zs.drop j = z :: zs.drop (j + 1) := by
        obtain ⟨hlz, rfl⟩ := List.getElem?_eq_some_iff.1 hz
        exact List.drop_eq_getElem_cons hlz
      have hzg := HGOOD.out z (List.mem_of_getElem? hz)
      have hone := one_any ab nb cb rest z wr ((HRB.out _ HR.out).below HBW.out) hnb hcb hzg
      have HONE := Lib.hid hone
      have HD := Lib.hid hd
      have hjl : (j : Int) < (nz : Int) := by omega
      cases hv : getVal z rest with
      | none =>
        have he : res = none := by rw [← HA.out, HD.out, takeP, hv]
        have HE := Lib.hid he
        rw [hv] at HONE
        clear hd hz hone hzg he hv
        go_wp2_with fail
        refine HONE.out.mono ?_
        rintro e w2 ⟨ho, _⟩
        obtain ⟨p, aq, nq, cq, rfl, hown, hb2⟩ := ho rfl
        have hbw2 := HBW.out.trans (hb2.mono hzw)
        have hz2 := hbw2.size
        clear hown hb2
        go_wp2_with fail
        go_ret3
        exact TakeP.no HE.out (hbw2.alloc hz2 _) rfl
      | some q =>
        obtain ⟨p, r⟩ := q
        have he : takeP (zs.drop (j + 1)) r (vs.map Vl.pv ++ [p]) = res := by rw [← HA.out, HD.out, takeP, hv]
        obtain ⟨cnt, hc0, hcl, hdr⟩ := getVal_rest hzg hv
        have hbl := (HRB.out _ HR.out).1
        have hc1 : nb - r.length = cnt := by omega
        have hc2 : cnt ≤ nb := by omega
        have hrow' : ∀ W, Row8 W a len bs → Row8 W (Option.map (fun x => x.add cnt) ab) (nb - cnt) r := fun W h => by rw [hdr]; exact (HRB.out W h).drop cnt hc2
        have HE := Lib.hid he
        have HROW' := Lib.hid hrow'
        have HC1 := Lib.hid hc1
        rw [hv] at HONE
        have i0 : ((cnt : Int) == 0) = false := by simp; omega
        have i1 : (0 : Int) ≤ (cnt : Int) := by omega
        have i2 : (cnt : Int) ≤ (nb : Int) := by omega
        have i3 : (nb : Int) ≤ (cb : Int) := by omega
        clear hd hz hone hzg he hv hbl hc1 hdr hrow' hcl
        go_wp2_with fail
        refine HONE.out.mono ?_
        rintro e w2 ⟨_, ho⟩
        obtain ⟨aq, nq, cq, rfl, hown, hb2⟩ := ho p r rfl
        rw [HC1.out]
        have hbw2 := HBW.out.trans (hb2.mono hzw)
        have hz2 := hb2.size
        have HB2 := Lib.hid hbw2
        have HOWN := Lib.hid hown
        have hO2 : ∀ o o2, OwnR ((w2.alloc o).alloc o2) w.heap.size vs ao j co := fun o o2 => HO.out.keep fun g hb hl => (heap_alloc_old _ _ (by rw [World.size_alloc]; omega)).trans ((heap_alloc_old _ _ (by omega)).trans (hb2.block g hl))
        have HO2 := Lib.hid hO2
        clear hbw2 hown hb2 hO2
        go_wp2_with (at_builtin; refine wpList_appendRef rfl (.tmp 29) (.tmp 31) rfl w.heap.size ao j co (vs.flatMap Vl.cells) rfl (HO2.out _ _).row (some ⟨w2.heap.size + 1, 0, none⟩) 1 1 (Vl.cells ⟨p.kind, p.n, p.x, ⟨aq, nq, cq, p.bs⟩, p.on⟩) rfl (RowN.new2 _ _ _ _ 5 1 _ _ rfl rfl rfl) (fun h => by cases h) (cells_one5 _) (by omega) (by rw [World.size_alloc, World.size_alloc]; omega) (j + 1) rfl ?_; intro ao3 cap3 w3 hown3 hg3 hat3)
        go_roundw
        case rel =>
          refine ⟨j + 1, r, _, nb - cnt, cb - cnt, vs ++ [⟨p.kind, p.n, p.x, ⟨aq, nq, cq, p.bs⟩, p.on⟩], ao3, cap3, by go_num, by omega, rfl, rfl, (fun W h => row_if (HROW'.out W h) hnb), by omega, by omega, ?_, ?_, ?_⟩
          · show _ = _
            rw [List.map_append]
            exact HE.out
          · exact (HO2.out _ _).snoc (own_more (own_keep HOWN.out fun g hg hl => (heap_alloc_old _ _ (by rw [World.size_alloc]; omega)).trans (heap_alloc_old _ _ hl)) hzw) hown3 hg3
          · exact ((HB2.out.alloc (Nat.le_trans hzw hz2) _).alloc (by rw [World.size_alloc]; omega) _).grown hg3 (by rw [World.size_alloc, World.size_alloc]; omega) (fun g hg => (HO.out.row.lt g hg).1)
        case measure => simp [intOf]; omega
    · have hke : j = nz := by omega
      subst hke
      have hd : zs.drop j = [] := List.drop_of_length_le (by rw [HL.out]; exact Nat.le_refl _)
      have hacc : res = some (vs.map Vl.pv, rest) := by rw [← HA.out, hd, takeP]
      have HE := Lib.hid hacc
      clear hd hacc
      go_wp2_with fail
      go_ret3
      refine ⟨HBW.out, (fun h => by rw [HE.out] at h; cases h), fun ps r h => ?_⟩
      rw [HE.out] at h
      injection h with h
      injection h with h1 h2
      subst h1 h2
      exact ⟨vs, ao, j, co, ab, nb, cb, rfl, rfl, HO.out, HRB.out, (HRB.out _ HR.out).1, hnb, hcb⟩

/-- what kinds answers -/
def RetKs (w : World) (ks : List Int) (e : Ending) (w' : World) : Prop := ∃ a n c, e = .returned (.slice a n c) ∧ RowN w' a 1 n (cellsZ ks) ∧ n ≤ 6 ∧ Below w.heap.size w w'
theorem RetKs.lit {w : World} {ks : List Int} {cs : Array Value} {t : TypeId} {n : Nat} (hcs : cs.toList = cellsZ ks) (hl : ks.length = n) (hn : n ≤ 6) : RetKs w ks (.returned (.slice (some ⟨w.heap.size, 0, none⟩) n n)) (w.alloc (.cells cs t)) :=
  ⟨_, n, n, rfl, RowN.of_block (heap_alloc_new w _) (by rw [cellsZ_len, hl, Nat.mul_one]) (by rw [hcs, List.take_length]), hn, (Below.refl _ _).alloc (Nat.le_refl _) _⟩
set_option maxRecDepth 100000 in
set_option maxHeartbeats 1600000 in
theorem kinds_any (k : Int) (w : World) (hk : 1 ≤ k ∧ k ≤ 8) : Calls Try.prog 51 #[.int .i64 k] w (RetKs w (kindsOf k)) := by
  have h8 : k = 1 ∨ k = 2 ∨ k = 3 ∨ k = 4 ∨ k = 5 ∨ k = 6 ∨ k = 7 ∨ k = 8 := by omega
  clear hk
  rcases h8 with rfl | rfl | rfl | rfl | rfl | rfl | rfl | rfl
  all_goals
    go_enter Try.func51, Try.ntmps51
    go_wp2_with fail
    go_ret
    exact RetKs.lit rfl rfl (by decide)
end Go.Proofs.Ytcejamblndilbaa
