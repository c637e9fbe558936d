/- NetOrder: what is sent comes in the order in which it was sent: the walk. -/
import Derived.Test.YtnjbhjgihcgefaaAlive
namespace Go.Proofs.Ytnjbhjgihcgefaa
open Go.RowKit

/-- how many bytes these slices hold, and one for each -/
def bulk8 (ss : List Sl) : Nat := (ss.map fun s => s.len + 1).sum
theorem bulk8_nil : bulk8 [] = 0 := rfl
theorem bulk8_cons (s : Sl) (r : List Sl) : bulk8 (s :: r) = s.len + 1 + bulk8 r := by simp [bulk8]
theorem and_mask (x : Int) (k : Nat) (hk : k ≤ 62) : bits .and .i64 x ((2 ^ k - 1 : Nat) : Int) = x % 2 ^ k := by
  have hp : 2 ^ k ≤ 2 ^ 62 := Nat.pow_le_pow_right (by decide) hk
  have hpos : 0 < 2 ^ k := Nat.two_pow_pos k
  show IntKind.i64.wrap ((BitVec.ofInt 64 x &&& BitVec.ofInt 64 ((2 ^ k - 1 : Nat) : Int)).toNat : Int) = _
  rw [BitVec.toNat_and, BitVec.ofInt_natCast, BitVec.toNat_ofNat, Nat.mod_eq_of_lt (a := 2 ^ k - 1) (by omega), Nat.and_two_pow_sub_one_eq_mod, BitVec.toNat_ofInt, IntKind.wrap_i64]
  have hd : ((2 ^ k : Nat) : Int) ∣ ((2 ^ 64 : Nat) : Int) := by
    refine Int.natCast_dvd_natCast.2 ⟨2 ^ (64 - k), ?_⟩
    rw [← Nat.pow_add]
    congr 1
    omega
  have h1 : ((x % ((2 ^ 64 : Nat) : Int)).toNat : Int) = x % ((2 ^ 64 : Nat) : Int) := Int.toNat_of_nonneg (Int.emod_nonneg _ (by decide))
  have h2 : (((x % ((2 ^ 64 : Nat) : Int)).toNat % 2 ^ k : Nat) : Int) = x % ((2 ^ k : Nat) : Int) := by
    rw [Int.natCast_emod, h1, Int.emod_emod_of_dvd _ hd]
  rw [h2]
  have h3 : 0 ≤ x % ((2 ^ k : Nat) : Int) := Int.emod_nonneg _ (by omega)
  have h4 : x % ((2 ^ k : Nat) : Int) < ((2 ^ k : Nat) : Int) := Int.emod_lt_of_pos _ (by omega)
  have h5 : ((2 ^ k : Nat) : Int) = 2 ^ k := by simp
  rw [← h5]
  omega
theorem masked31 (x : Int) : ∃ k : Nat, bits .and .i64 x 31 = (k : Int) ∧ k < 32 := by
  have h := and_mask x 5 (by decide)
  refine ⟨(x % 32).toNat, ?_, by omega⟩
  have e : ((2 ^ 5 - 1 : Nat) : Int) = 31 := by decide
  rw [e] at h
  rw [h]
  have : (2 : Int) ^ 5 = 32 := by decide
  rw [this]
  omega

theorem bulk8_mem {ss : List Sl} {s : Sl} (h : s ∈ ss) : s.len + 1 ≤ bulk8 ss := by
  induction ss with
  | nil => cases h
  | cons x r ih =>
    rw [bulk8_cons]
    rcases List.mem_cons.1 h with rfl | h
    · omega
    · have := ih h; omega
theorem bulk8_len (ss : List Sl) : ss.length ≤ bulk8 ss := by
  induction ss with
  | nil => exact Nat.zero_le _
  | cons x r ih => rw [bulk8_cons, List.length_cons]; omega

def nilSl : Sl := ⟨none, 0, 0, []⟩
/-- what was sent: number, destination, bytes -/
def sent (ss : List Sl) (n : Nat) : List (Int × Int × List UInt8) := (List.range n).map fun (j : Nat) => ((j : Int), (1 : Int), (ss.getD j nilSl).bs)
theorem sent_succ (ss : List Sl) (n : Nat) : sent ss (n + 1) = sent ss n ++ [((n : Int), 1, (ss.getD n nilSl).bs)] := by simp [sent, List.range_succ]
theorem sent_len (ss : List Sl) (n : Nat) : (sent ss n).length = n := by simp [sent]
theorem sent_at (ss : List Sl) (n k : Nat) (h : k < n) : (sent ss n)[k]? = some ((k : Int), 1, (ss.getD k nilSl).bs) := by simp [sent, h]

theorem sl_at {w : World} {a : Option Addr} {n : Nat} {ss : List Sl} (h : RowN w a 1 n (ss.map Sl.val)) (k : Nat) (hk : k < n) :
    ∃ b off s, a = some ⟨b, off, none⟩ ∧ ss[k]? = some s ∧ w.cell? ⟨b, off + k, none⟩ = some (.slice s.a s.len s.cap) := by
  have hl : ss.length = n := by have := h.1; rw [List.length_map] at this; omega
  obtain ⟨b, off, ha, hc⟩ := h.at k (by omega)
  refine ⟨b, off, ss[k]'(by omega), ha, List.getElem?_eq_getElem _, ?_⟩
  rw [hc]
  simp [Sl.val]

set_option maxRecDepth 100000 in
set_option maxHeartbeats 6400000 in
theorem netOrder_walk (most : Int) (a : Option Addr) (len cap : Nat) (ss : List Sl) (w : World) (_wm : (Lit.int .i64 most).wf = true) (hr : RowN w a 1 len (ss.map Sl.val)) (hok : ∀ s ∈ ss, Sl.ok w s) (_hlc : len ≤ cap) (_hcm : cap ≤ maxLen) (_hn : a = none → cap = 0)
    (hbulk : bulk8 ss ≤ 1048576) :
    Calls Try.prog 3 #[.int .i64 most, .slice a len cap] w fun e w' => e = .returned (.bool true) ∧ Below w.heap.size w w' := by
  obtain ⟨m0, hmask, hm32⟩ := masked31 most
  have hsl : ss.length = len := by have := hr.1; rw [List.length_map] at this; omega
  have hlb := bulk8_len ss
  obtain ⟨m, hm⟩ : ∃ m, m = m0 + 1 := ⟨_, rfl⟩
  have hmo : mostOf ((m : Nat) : Int) = ((m : Nat) : Int) := by unfold mostOf; rw [if_neg (by omega), if_neg (by omega)]
  have hsum : (1 : Int) + (m0 : Int) = ((m : Nat) : Int) := by omega
  have hm33 : m ≤ 32 := by omega
  have hm1 : 1 ≤ m := by omega
  have hlen : len ≤ 1048576 := by omega
  have HMO := Lib.hid hmo
  have HR := Lib.hid hr
  have HOK := Lib.hid hok
  have HSL := Lib.hid hsl
  have HBK := Lib.hid hbulk
  clear hr hok hsl hlb hm hmo hbulk
  go_enter Try.func3, Try.ntmps3
  go_wp2_with fail
  refine (new_any m _).mono ?_
  rintro e w1 ⟨rfl, hN1, hb1⟩
  rw [HMO.out] at hN1
  have hz1 := hb1.size
  go_wp2_with fail
  refine (alive_any _).mono ?_
  rintro e w2 ⟨rfl, hb2⟩
  have hbw2 : Below w.heap.size w w2 := hb1.trans (hb2.mono hz1)
  have HN2 := Lib.hid (hN1.below hb2)
  have HB2 := Lib.hid hbw2
  clear hN1 hb1 hb2 hbw2
  go_wp2_with fail
  go_loopw [26] (fun i wr => ∃ (k n : Nat) (ls : List L3) (ao : Option Addr) (cn : Nat), k ≤ len ∧ i = .int .i64 k ∧ n = min k m ∧ Hid (ls.map L3.says = sent ss n) ∧ NetAt wr w.heap.size m ls ao n cn ∧ Below w.heap.size w wr) (fun i _ => len - (intOf i).toNat)
  case atStart => exact ⟨0, 0, [], none, 0, by omega, rfl, by omega, rfl, HN2.out, HB2.out⟩
  case round =>
    obtain ⟨k, n, ls, ao, cn, hk, rfl, hn, HS, hN, hbw⟩ := hrel
    have hzw := hbw.size
    by_cases hlt : k < len
    · obtain ⟨b, off, s, rfl, hs, hcell⟩ := sl_at (HR.out.below hbw) k hlt
      have hmem := List.mem_of_getElem? hs
      have hso := HOK.out s hmem
      have hbk := bulk8_mem hmem
      have hb48 : s.len ≤ 140737488355328 := by have := HBK.out; omega
      have hnil : s.a = none → s.len = 0 ∧ s.cap = 0 := fun e => by have h1 := hso.2.2.2 e; have h2 := hso.2.1; omega
      have hget : (ss.getD k nilSl) = s := by rw [List.getD_eq_getElem?_getD, hs]; rfl
      have HGET := Lib.hid hget
      have hkl : (k : Int) < (len : Int) := by omega
      have HSO := Lib.hid hso
      have HN := Lib.hid hN
      have HBW := Lib.hid hbw
      have HNN := Lib.hid hn
      clear hso hbk hget hmem hs hN hbw
      by_cases hkm : k < m
      · have hnk : n = k := by omega
        have hkmi : (k : Int) < (m : Int) := by omega
        clear hn
        go_wp2_with fail
        refine (send_any w.heap.size m ls ao n cn (k : Int) 1 s.a s.len s.cap s.bs _ HN.out (by omega) (by omega) (HSO.out.1.below HBW.out) hnil hb48).mono ?_
        rintro e w3 ⟨rfl, s3, ao3, cn3, hb3, hl3, hN3, hs3⟩
        have HB3 := Lib.hid hb3
        have HN3 := Lib.hid hN3
        have HS3 := Lib.hid hs3
        have HNK := Lib.hid hnk
        clear hb3 hl3 hN3 hs3 hnk
        go_wp2_with fail
        go_roundw
        case rel =>
          have hnk := HNK.out
          refine ⟨k + 1, n + 1, ls ++ [⟨(k : Int), 1, s3⟩], ao3, cn3, by omega, by go_num, by omega, ?_, HN3.out, HBW.out.trans (NStep.below HN.out HS3.out)⟩
          show _ = _
          rw [List.map_append, HS.out, sent_succ, hnk, HGET.out]
          simp [L3.says, HB3.out]
        case measure => simp [intOf]; omega
      · have hnm : (n : Int) = (m : Int) := by omega
        have hkmi : ¬ (k : Int) < (m : Int) := by omega
        have HNM := Lib.hid hnm
        clear hn hnm
        go_wp2_with fail
        refine (send_full w.heap.size m ls ao n cn _ _ HN.out HNM.out ⟨_, _, _, _, _, rfl⟩).mono ?_
        rintro e w3 ⟨rfl, hb3⟩
        have HB3 := Lib.hid hb3
        clear hb3
        go_wp2_with fail
        go_roundw
        case rel => exact ⟨k + 1, n, ls, ao, cn, by omega, by go_num, by have := HNN.out; omega, HS, HN.out.below HB3.out, HBW.out.trans (HB3.out.mono hzw)⟩
        case measure => simp [intOf]; omega
    · obtain ⟨t, ht⟩ : ∃ t, t = n := ⟨_, rfl⟩
      have htm : t = min len m := by omega
      have htk : t ≤ m := by omega
      subst ht
      obtain ⟨wo, rfl⟩ : ∃ wo, wo = wr := ⟨_, rfl⟩
      have HN := Lib.hid hN
      have HBW := Lib.hid hbw
      have HTM := Lib.hid htm
      clear hN hbw hn htm
      go_wp2_with fail
      go_loopw [45] (fun i wr => ∃ (j n : Nat) (us : List L3), j ≤ len ∧ i = .int .i64 j ∧ Hid (n = t - j) ∧ Hid (us.map L3.says = (sent ss t).drop j) ∧ NetAt wr w.heap.size m us ao n (cn) ∧ Below w.heap.size w wr) (fun i _ => len - (intOf i).toNat)
      case atStart => exact ⟨0, t, ls, by omega, rfl, rfl, HS, HN.out, HBW.out⟩
      case round =>
        obtain ⟨j, n, us, hj, rfl, HNJ, HU, hN, hbw⟩ := hrel
        have hzw := hbw.size
        by_cases hlt2 : j < len
        · obtain ⟨b, off, s, rfl, hs, hcell⟩ := sl_at (HR.out.below hbw) j hlt2
          have hso := HOK.out s (List.mem_of_getElem? hs)
          have hget : (ss.getD j nilSl) = s := by rw [List.getD_eq_getElem?_getD, hs]; rfl
          have hjl : (j : Int) < (len : Int) := by omega
          have HSO := Lib.hid hso
          have HBW2 := Lib.hid hbw
          by_cases hn0 : n = 0
          · have hjm : ¬ (j : Int) < (m : Int) := by have h1 := HNJ.out; have h2 := HTM.out; omega
            have htk := take_no w.heap.size m us ao n cn 0 _ hN (by omega)
            have HTK := Lib.hid htk
            have HN2 := Lib.hid hN
            clear hs hso hget htk hN hbw hn0
            go_wp2_with fail
            refine HTK.out.mono ?_
            rintro e w3 ⟨rfl, hb3⟩
            have HB3 := Lib.hid hb3
            have hz3 := hb3.size
            clear hb3
            go_wp2_with fail
            go_roundw
            case rel =>
              refine ⟨j + 1, n, us, by omega, by go_num, ?_, ?_, (HN2.out.below HB3.out).below ((Below.refl _ _).alloc (Nat.le_refl _) _), (HBW2.out.trans (HB3.out.mono hzw)).alloc (by omega) _⟩
              · have h1 := HNJ.out
                have h2 := HTM.out
                show n = t - (j + 1)
                omega
              · have h1 := HNJ.out
                have h2 := HTM.out
                show _ = _
                rw [HU.out, List.drop_of_length_le (by rw [sent_len]; omega), List.drop_of_length_le (by rw [sent_len]; omega)]
            case measure => simp [intOf]; omega
          · have hjt : j < t := by have h1 := HNJ.out; omega
            have hjm : (j : Int) < (m : Int) := by omega
            have hdr : (sent ss t).drop j = ((j : Int), 1, s.bs) :: (sent ss t).drop (j + 1) := by
              have h1 := sent_at ss t j hjt
              obtain ⟨hl1, h2⟩ := List.getElem?_eq_some_iff.1 h1
              rw [List.drop_eq_getElem_cons hl1, h2, hget]
            have hus := HU.out
            rw [hdr] at hus
            cases us with
            | nil => cases hus
            | cons l r =>
              simp only [List.map_cons, List.cons.injEq] at hus
              obtain ⟨hl1, hl2⟩ := hus
              obtain ⟨f, tt, s0⟩ := l
              simp only [L3.says, Prod.mk.injEq] at hl1
              obtain ⟨rfl, rfl, hsb⟩ := hl1
              have htk := take_ok w.heap.size m _ ao n cn 0 ⟨(j : Int), 1, s0⟩ _ hN (by omega) rfl (by have := HNJ.out; omega)
              have HTK := Lib.hid htk
              have HSB := Lib.hid hsb
              have HL2 := Lib.hid hl2
              have HN2 := Lib.hid hN
              clear hs hso hget htk hN hbw hdr hsb hl2 HU
              go_wp2_with fail
              refine HTK.out.mono ?_
              rintro e w3 ⟨rfl, hN3, hs3, ho3⟩
              have hrow := (ho3 _ (List.mem_cons_self ..)).row
              have hcap := (ho3 _ (List.mem_cons_self ..)).cap
              simp only at hrow hcap
              rw [HSB.out] at hrow
              have hbw3 := HBW2.out.trans (NStep.below HN2.out hs3)
              have hz3 := hbw3.size
              have HN3 := Lib.hid hN3
              have HBW3 := Lib.hid hbw3
              have HROW := Lib.hid hrow
              clear hN3 hs3 ho3 hrow hbw3
              go_wp2_with fail
              refine (same_any s0.a s.a s0.len s.len s0.cap s.cap s.bs s.bs _ (HROW.out.below ((Below.refl _ _).alloc (Nat.le_refl _) _)) (HSO.out.1.below (HBW3.out.alloc hz3 _)) (by omega) (by have h1 := HSO.out.2.1; have h2 := HSO.out.2.2.1; omega)).mono ?_
              rintro e w4 ⟨rfl, q, rfl⟩
              rw [decide_eq_true rfl]
              go_wp2_with fail
              go_roundw
              case rel => exact ⟨j + 1, n - 1, r, by omega, by go_num, by (show n - 1 = t - (j + 1)); have := HNJ.out; omega, HL2, (HN3.out.below ((Below.refl _ _).alloc (Nat.le_refl _) _)).below (below_drewN (Below.refl _ _) q), below_drewN (HBW3.out.alloc hz3 _) q⟩
              case measure => simp [intOf]; omega
        · have hn0 : n = 0 := by have h1 := HNJ.out; have h2 := HTM.out; omega
          subst hn0
          have hdn := drop_no w.heap.size m us ao 0 cn 0 wr hN (by omega)
          have HDN := Lib.hid hdn
          have HN2 := Lib.hid hN
          have HBW2 := Lib.hid hbw
          clear hdn hN hbw
          go_wp2_with fail
          refine (len_any w.heap.size m us ao 0 cn _ HN2.out).mono ?_
          rintro e w3 ⟨rfl, rfl⟩
          go_wp2_with fail
          refine HDN.out.mono ?_
          rintro e w4 ⟨rfl, hb4⟩
          go_wp2_with fail
          go_ret
          exact ⟨rfl, HBW2.out.trans (hb4.mono hzw)⟩
end Go.Proofs.Ytnjbhjgihcgefaa
