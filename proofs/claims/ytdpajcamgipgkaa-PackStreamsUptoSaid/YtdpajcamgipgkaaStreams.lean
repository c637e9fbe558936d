/- PackStreams: frames one behind the other are taken apart one by one: the walk. -/
import Derived.Test.YtdpajcamgipgkaaBits
import Derived.Test.YtdpajcamgipgkaaFrames
import Derived.Test.YtdpajcamgipgkaaRowN
namespace Go.Proofs.Ytdpajcamgipgkaa
open Go.RowKit

def good (ss : List Sl) : List Sl := ss.filter fun s => decide (s.len ≤ 4096)
def cat (ss : List Sl) : List UInt8 := ss.flatMap fun s => Fr.frame s.bs

theorem good_yes (ss : List Sl) (s : Sl) (h : s.len ≤ 4096) : good (ss ++ [s]) = good ss ++ [s] := by simp [good, List.filter_append, h]
theorem good_no (ss : List Sl) (s : Sl) (h : ¬ s.len ≤ 4096) : good (ss ++ [s]) = good ss := by simp [good, List.filter_append]; omega
theorem cat_snoc (ss : List Sl) (s : Sl) : cat (ss ++ [s]) = cat ss ++ Fr.frame s.bs := by simp [cat]
theorem cat_cons (s : Sl) (ss : List Sl) : cat (s :: ss) = Fr.frame s.bs ++ cat ss := by simp [cat]
theorem cat_len (ss : List Sl) (h : ∀ s ∈ ss, s.bs.length = s.len) : (cat (good ss)).length ≤ 8 * bulk8 ss := by
  induction ss with
  | nil => simp [cat, good]
  | cons s r ih =>
    have h1 := ih fun x hx => h x (List.mem_cons_of_mem _ hx)
    have h2 := h s (List.mem_cons_self ..)
    rw [bulk8_cons]
    by_cases c : s.len ≤ 4096
    · have e : good (s :: r) = s :: good r := by simp [good, c]
      rw [e, cat_cons, List.length_append, Fr.frame_length]
      omega
    · have e : good (s :: r) = good r := by simp [good, c]
      rw [e]
      omega
theorem good_len (ss : List Sl) : (good ss).length ≤ bulk8 ss := by
  induction ss with
  | nil => simp [good]
  | cons s r ih =>
    rw [bulk8_cons]
    have : (good (s :: r)).length ≤ (good r).length + 1 := by
      unfold good
      rw [List.filter_cons]
      split <;> simp
    omega
theorem bulk8_take (ss : List Sl) (k : Nat) : bulk8 (ss.take k) ≤ bulk8 ss := by
  have : ∀ a b : List Sl, bulk8 (a ++ b) = bulk8 a + bulk8 b := fun a b => by simp [bulk8]
  have e := this (ss.take k) (ss.drop k)
  rw [List.take_append_drop] at e
  omega

def Apart (u v : Value) : Prop := ∀ k, u.ownBlock = some k → v.ownBlock ≠ some k

theorem one_slice (a : Option Addr) (n c : Nat) : ∀ u ∈ [Value.slice a n c], u.oneCell' = true := by
  intro u hu
  rw [List.mem_singleton] at hu
  subst hu
  rfl
/-- The other slice stays as it is while this one grows. -/
theorem own_kept1 {w w' : World} {base : Nat} {e : TypeId} {aa : Option Addr} {na ca : Nat} {bs : List UInt8} {ak : Option Addr} {nk ck : Nat} {vs : List Value} {o : Obj} (_h1 : Own8 w base aa na ca bs) (h2 : w.ownsRow base e 1 (.slice ak nk ck) nk vs)
    (hap : Apart (.slice aa na ca) (.slice ak nk ck)) (hg : w.grownBy w' (Value.ownBlock (.slice aa na ca))) : (w'.alloc o).ownsRow base e 1 (.slice ak nk ck) nk vs := by
  refine World.ownsRow.alloc (own_kept h2 hg ?_) o
  cases hb : Value.ownBlock (.slice ak nk ck) with
  | none => exact .inl rfl
  | some k => exact .inr fun e => hap k e.symm hb

set_option maxRecDepth 100000 in
set_option maxHeartbeats 3200000 in
theorem packStreams_walk (a : Option Addr) (len cap : Nat) (ss : List Sl) (at_ : Int) (w : World) (hr : RowN w a 1 len (ss.map Sl.val)) (hok : ∀ s ∈ ss, Sl.ok w s) (_hlc : len ≤ cap) (_hcm : cap ≤ maxLen) (_hn : a = none → cap = 0)
    (_wa : (Lit.int .i64 at_).wf = true) (hbulk : bulk8 ss ≤ 1048576) :
    Calls Try.prog 6 #[.slice a len cap, .int .i64 at_] w fun e w' => e = .returned (.bool true) ∧ Below w.heap.size w w' := by
  have hsl : ss.length = len := by have := hr.1; rw [List.length_map] at this; omega
  have hlen : len ≤ 1048576 := by
    have : ss.length ≤ bulk8 ss := by
      clear hr hok hsl hbulk
      induction ss with
      | nil => simp
      | cons s r ih => rw [bulk8_cons, List.length_cons]; omega
    omega
  have HB := Lib.hid hbulk
  have HR := Lib.hid hr
  have HK := Lib.hid hok
  have HS := Lib.hid hsl
  obtain ⟨k8, hk8, hk8l⟩ := masked at_
  clear hr hok hsl hbulk
  go_enter Try.func6, Try.ntmps6
  go_wp2_with fail
  refine (framing_any _).mono ?_
  rintro e w1 ⟨rfl, hb1⟩
  have hz1 := hb1.size
  go_wp2_with fail
  go_loopw [5, 6, 26] (fun va vk i wr => ∃ (k : Nat) (aa : Option Addr) (na ca : Nat) (ak : Option Addr) (nk ck : Nat), k ≤ len ∧ i = .int .i64 k ∧ va = .slice aa na ca ∧ vk = .slice ak nk ck ∧
      Own8 wr w.heap.size aa na ca (cat (good (ss.take k))) ∧ wr.ownsRow w.heap.size 22 1 (.slice ak nk ck) nk ((good (ss.take k)).map Sl.val) ∧ Below w.heap.size w wr ∧ Apart (.slice aa na ca) (.slice ak nk ck)) (fun _ _ i _ => len - (intOf i).toNat)
  case atStart =>
    refine ⟨0, _, _, _, _, _, _, Nat.zero_le _, rfl, rfl, rfl, ?_, ?_, ?_, ?_⟩
    · exact (Own8.made w1 w.heap.size #[] [] 0 hz1 (by decide) rfl rfl).below (B := (w1.alloc (.cells #[] 5)).heap.size) ((Below.refl _ _).alloc (Nat.le_refl _) _) (Nat.le_refl _)
    · have h := World.ownsRow_lit (base := w.heap.size) (e := 22) (size := 1) (w1.alloc (.cells #[] 5)) #[] 0 (by rw [World.size_alloc]; omega) (by decide) rfl
      rw [World.size_alloc] at h
      exact h
    · exact (hb1.alloc hz1 _).alloc (by rw [World.size_alloc]; omega) _
    · intro x hx hy
      simp [Value.ownBlock] at hx hy
      omega
  case round =>
    obtain ⟨k, aa, na, ca, ak, nk, ck, hk, rfl, rfl, rfl, hall, hkept, hbw, hap⟩ := hrel
    by_cases hlt : k < len
    · obtain ⟨s, hs⟩ : ∃ s, s = ss[k]'(by rw [HS.out]; exact hlt) := ⟨_, rfl⟩
      have hmem : s ∈ ss := by rw [hs]; exact List.getElem_mem _
      have hsok := (HK.out s hmem).below hbw
      obtain ⟨b, off, rfl, hcell⟩ := ((HR.out.below hbw).at k (by omega))
      rw [List.getElem_map, ← hs] at hcell
      have htk : ss.take (k + 1) = ss.take k ++ [s] := by rw [hs, List.take_succ_eq_append_getElem]
      have HTK := Lib.hid htk
      clear htk hs
      obtain ⟨sa, sl, sc, sb⟩ := s
      obtain ⟨hrow, hs1, hs2, hs3⟩ := hsok
      simp only [Sl.val] at hcell hrow hs1 hs2 hs3
      have HROW := Lib.hid hrow
      have HALL := Lib.hid hall
      have HKEPT := Lib.hid hkept
      have HAP := Lib.hid hap
      have HS3 := Lib.hid hs3
      have HM := Lib.hid hmem
      have hzw := hbw.size
      clear hrow hall hkept hap hs3 hmem
      by_cases h4 : sl ≤ 4096
      · go_wp2_with fail
        refine (frame_yes sa sl sc sb _ HROW.out HS3.out h4).mono ?_
        rintro e w2 ⟨af, cf, rfl, hownf, hbf⟩
        have hzf := hbf.size
        have hbwf : Below w.heap.size w w2 := hbw.trans (hbf.mono hzw)
        have hall2 := HALL.out.below hbf (Nat.le_refl _)
        have hkept2 := own_below HKEPT.out hbf (Nat.le_refl _)
        have hna : na ≤ 8 * 1048576 := by
          have h1 := HALL.out.length
          have h2 := cat_len (ss.take k) (fun x hx => (HK.out x (List.mem_of_mem_take hx)).1.1)
          have h3 := bulk8_take ss k
          have h4 := HB.out
          omega
        have hnk : nk ≤ 1048576 := by
          have h1 := HKEPT.out.1
          rw [List.length_map] at h1
          have h2 := good_len (ss.take k)
          have h3 := bulk8_take ss k
          have h4 := HB.out
          omega
        have hfl : (Fr.frame sb).length = 8 + sl := hownf.length
        have hkb : k8 % (8 + sl) < 8 + sl := Nat.mod_lt _ (by omega)
        have hkl' : (k8 : Int) % (8 + (sl : Int)) < 8 + (sl : Int) := Int.emod_lt_of_pos _ (by omega)
        have hkl0 : 0 ≤ (k8 : Int) % (8 + (sl : Int)) := Int.emod_nonneg _ (by omega)
        have hcast : (k8 : Int) % (8 + (sl : Int)) = ((k8 % (8 + sl) : Nat) : Int) := by rw [Int.natCast_emod, Int.natCast_add]; rfl
        have htn : ((k8 : Int) % (8 + (sl : Int))).toNat = k8 % (8 + sl) := by rw [hcast]; omega
        have hz0' : ¬ (8 + (sl : Int) = 0) := by omega
        obtain ⟨cf1, cf2⟩ := hownf.cap
        have hcf : cf ≤ 9223372036854775807 := by simpa [maxLen] using cf2
        obtain ⟨gf, rfl, hgf, hgfl⟩ := hownf.addr (by omega)
        have HC := Lib.hid hcast
        have HFL := Lib.hid hfl
        have HALL2 := Lib.hid hall2
        have HKEPT2 := Lib.hid hkept2
        have HOWNF := Lib.hid hownf
        clear hcast hfl hall2 hkept2 hownf
        have hkcap : (k8 : Int) % (8 + (sl : Int)) ≤ (cf : Int) := by rw [HC.out]; omega
        go_wp2_with (first
          | (at_builtin; refine wpList_append8 rfl (.tmp 37) (.tmp 38) rfl w.heap.size aa na ca (cat (good (ss.take k))) rfl HALL2.out (some ⟨gf, 0, none⟩) (8 + sl) cf (Fr.frame sb) rfl HOWNF.out.row (fun h => by cases h) (by omega) (by omega) (na + (8 + sl)) rfl ?_; intro aa' ca' w3 hown3 hg3 hat3; have hz3 := hg3.size)
          | (at_builtin; refine wpList_appendSl rfl (.tmp 40) (.tmp 42) rfl w.heap.size ak nk ck ((good (ss.take k)).map Sl.val) rfl (own_kept1 HALL2.out HKEPT2.out HAP.out hg3) (some ⟨w3.heap.size, 0, none⟩) 1 1 [.slice sa sl sc] rfl (RowN.new1 _ _ _) (fun h => by cases h) (one_slice _ _ _) (by omega) (by simp; omega) (nk + 1) rfl ?_; intro ak' ck' w4 hown4 hg4 hat4; have hz4 := hg4.size))
        have hapo := HAP.out
        have hzb : ∀ g, Value.ownBlock (.slice aa na ca) = some g → g < wr.heap.size := fun g hg => (HALL.out.block g hg).2
        have hzk : ∀ g, Value.ownBlock (.slice ak nk ck) = some g → g < wr.heap.size := fun g hg => (World.ownsRow.lt HKEPT.out g hg).2
        have hap3 : Apart (.slice aa' (na + (8 + sl)) ca') (.slice ak nk ck) := fun x hx hy => by
          rcases hat3 with h | h
          · exact hapo x (by rw [← h]; exact hx) hy
          · have := hzk x hy
            rw [h] at hx
            injection hx
            omega
        have hown3' : Own8 w4 w.heap.size aa' (na + (8 + sl)) ca' (cat (good (ss.take k)) ++ Fr.frame sb) := by
          have h1 : Own8 (w3.alloc (.cells #[.slice sa sl sc] 22)) w.heap.size aa' (na + (8 + sl)) ca' (cat (good (ss.take k)) ++ Fr.frame sb) := World.ownsRow.alloc hown3 _
          refine own_kept h1 hg4 ?_
          cases hb : Value.ownBlock (.slice aa' (na + (8 + sl)) ca') with
          | none => exact .inl rfl
          | some x => exact .inr fun e => hap3 x hb e.symm
        have hap4 : Apart (.slice aa' (na + (8 + sl)) ca') (.slice ak' (nk + 1) ck') := fun x hx hy => by
          rcases hat4 with h | h
          · exact hap3 x hx (by rw [← h]; exact hy)
          · have h1 := (hown3.block x hx).2
            rw [h, World.size_alloc] at hy
            injection hy
            omega
        have hrow4 : Row8 w4 (some ⟨gf, 0, none⟩) (8 + sl) (Fr.frame sb) := by
          have h1 : Row8 w3 (some ⟨gf, 0, none⟩) (8 + sl) (Fr.frame sb) := HOWNF.out.row.grown hg3 (by
            intro b' off' he hh
            simp only [Option.some.injEq, Addr.mk.injEq] at he
            have := hzb b' hh
            omega)
          exact (h1.alloc _).grown hg4 (by
            intro b' off' he hh
            simp only [Option.some.injEq, Addr.mk.injEq] at he
            have := hzk b' hh
            omega)
        have hbw4 : Below w.heap.size w w4 := ((hbwf.grown hg3 (by omega) (fun x hx => (HALL.out.block x hx).1)).alloc (by omega) _).grown hg4 (by rw [World.size_alloc]; omega) (fun x hx => (World.ownsRow.lt HKEPT.out x hx).1)
        have hcut := hrow4.cut 0 (k8 % (8 + sl)) (by omega)
        have hua := unframe_all (some ⟨gf, 0, none⟩) (k8 % (8 + sl)) cf _ w4 hcut (by omega) cf2
        rw [List.drop_zero, Fr.unframe_begin sb (k8 % (8 + sl)) (by have := HROW.out.1; omega) (by rw [HFL.out]; omega)] at hua
        have HUA := Lib.hid hua
        clear hua
        refine HUA.out.mono ?_
        rintro e w5 ⟨ao5, cap5, rfl, hown5, hb5⟩
        have hz4' := hbw4.size
        go_wp2_with fail
        go_roundw
        case rel =>
          refine ⟨k + 1, aa', na + (8 + sl), ca', ak', nk + 1, ck', by omega, by go_num, rfl, rfl, ?_, ?_, hbw4.trans (hb5.mono hz4'), hap4⟩
          · rw [HTK.out, good_yes _ _ h4, cat_snoc]
            exact hown3'.below hb5 (Nat.le_refl _)
          · rw [HTK.out, good_yes _ _ h4, List.map_append]
            exact own_below hown4 hb5 (Nat.le_refl _)
        case measure => simp [intOf]; omega
      · go_wp2_with fail
        refine (frame_no sa sl sc _ h4).mono ?_
        rintro e w2 ⟨af, cf, rfl, hownf, hbf⟩
        go_wp2_with fail
        go_roundw
        case rel =>
          refine ⟨k + 1, aa, na, ca, ak, nk, ck, by omega, by go_num, rfl, rfl, ?_, ?_, hbw.trans (hbf.mono hzw), HAP.out⟩
          · rw [HTK.out, good_no _ _ h4]
            exact HALL.out.below hbf (Nat.le_refl _)
          · rw [HTK.out, good_no _ _ h4]
            exact own_below HKEPT.out hbf (Nat.le_refl _)
        case measure => simp [intOf]; omega
    · have hke : k = len := by omega
      subst hke
      obtain ⟨wo, rfl⟩ : ∃ wo : World, wo = wr := ⟨_, rfl⟩
      have htk : ss.take k = ss := List.take_of_length_le (by rw [HS.out]; exact Nat.le_refl _)
      rw [htk] at hall hkept
      obtain ⟨G, hG⟩ : ∃ G, G = good ss := ⟨_, rfl⟩
      rw [← hG] at hall hkept
      have hGok : ∀ s ∈ G, Sl.ok w s ∧ s.len ≤ 4096 := fun s hs => by
        rw [hG] at hs
        simp only [good, List.mem_filter, decide_eq_true_eq] at hs
        exact ⟨HK.out s hs.1, hs.2⟩
      have hGl : G.length = nk := by have := hkept.1; rw [List.length_map] at this; omega
      have hnk : nk ≤ 1048576 := by
        have h2 := good_len ss
        have h4 := HB.out
        rw [← hG] at h2
        omega
      have HG := Lib.hid hGok
      have HGL := Lib.hid hGl
      have HKR := Lib.hid (RowN.of_own hkept)
      have HALL := Lib.hid hall
      obtain ⟨hca1, hca2⟩ := hall.cap
      have hzw := hbw.size
      clear hall hkept hGok hGl hG htk hap
      go_wp2_with fail
      go_loopw [5, 62] (fun va i wq => ∃ (j : Nat) (aj : Option Addr) (nj cj : Nat), j ≤ nk ∧ i = .int .i64 j ∧ va = .slice aj nj cj ∧ Row8 wq aj nj (cat (G.drop j)) ∧ nj ≤ cj ∧ cj ≤ maxLen ∧ Below wo.heap.size wo wq) (fun _ i _ => nk - (intOf i).toNat)
      case atStart => exact ⟨0, aa, na, ca, Nat.zero_le _, rfl, rfl, HALL.out.row, hca1, hca2, Below.refl _ _⟩
      case round =>
        obtain ⟨j, aj, nj, cj, hj, rfl, rfl, hrj, hc1, hc2, hbq⟩ := hrel
        have hzq := hbq.size
        by_cases hlt' : j < nk
        · obtain ⟨s, hs⟩ : ∃ s, s = G[j]'(by rw [HGL.out]; exact hlt') := ⟨_, rfl⟩
          have hmem : s ∈ G := by rw [hs]; exact List.getElem_mem _
          have hbw2 : Below w.heap.size w wo := hbw
          have hsok := (HG.out s hmem).1.below (hbw2.trans (hbq.mono hzw))
          have hs4 := (HG.out s hmem).2
          obtain ⟨b, off, rfl, hcell⟩ := ((HKR.out.below hbq).at j (by omega))
          rw [List.getElem_map, ← hs] at hcell
          have hdr : G.drop j = s :: G.drop (j + 1) := by rw [hs]; exact List.drop_eq_getElem_cons _
          rw [hdr, cat_cons] at hrj
          obtain ⟨sa, sl, sc, sb⟩ := s
          obtain ⟨hrow, hs1, hs2, hs3⟩ := hsok
          simp only [Sl.val] at hcell hrow hs1 hs2 hs3 hs4 hrj
          have hsb : sb.length = sl := hrow.1
          have hnj : nj = 8 + sl + (cat (G.drop (j + 1))).length := by
            have := hrj.1
            rw [List.length_append, Fr.frame_length] at this
            omega
          have hua := unframe_all aj nj cj _ wr hrj hc1 hc2
          rw [Fr.unframe_frame sb _ (by omega)] at hua
          simp only [hsb] at hua
          have HUA := Lib.hid hua
          have HRJ := Lib.hid hrj
          have HROW := Lib.hid hrow
          have HNJ := Lib.hid hnj
          have hle : 8 + sl ≤ nj := by omega
          have hcj : cj ≤ 9223372036854775807 := by simpa [maxLen] using hc2
          obtain ⟨bj, oj, rfl, _⟩ := hrj.2 0 (by omega)
          clear hua hrj hrow hnj hdr hs hsb hmem hs3
          go_wp2_with fail
          refine HUA.out.mono ?_
          rintro e w5 ⟨ao5, cap5, rfl, hown5, hb5⟩
          go_wp2_with fail
          refine (same_any sa ao5 sl sl sc cap5 sb sb _ (HROW.out.below hb5) hown5.row (by simp only [maxLen]; omega) (by simp only [maxLen]; omega)).mono ?_
          rintro e w6 ⟨rfl, q, rfl⟩
          rw [decide_eq_true (rfl : sb = sb)]
          have hle' : 8 + (sl : Int) ≤ (nj : Int) := by omega
          go_wp2
          go_roundw
          case rel =>
            refine ⟨j + 1, _, nj - (8 + sl), cj - (8 + sl), by omega, by go_num, rfl, ?_, by omega, by omega, below_drewN (hbq.trans (hb5.mono hzq)) q⟩
            have hcut := (HRJ.out.below hb5).cut (8 + sl) (nj - (8 + sl)) (by omega)
            have hdd : ((Fr.frame sb ++ cat (G.drop (j + 1))).drop (8 + sl)).take (nj - (8 + sl)) = cat (G.drop (j + 1)) := by
              rw [List.drop_left' (by rw [Fr.frame_length, HROW.out.1]; omega)]
              exact List.take_of_length_le (by rw [HNJ.out]; omega)
            rw [hdd] at hcut
            split
            · rename_i hceq
              have h0 : nj - (8 + sl) = 0 := by omega
              rw [h0]
              have hc0 : cat (G.drop (j + 1)) = [] := List.eq_nil_of_length_eq_zero (by have := HNJ.out; omega)
              rw [hc0]
              exact Row8.nil _ _
            · exact hcut.drewN q
          case measure => simp [intOf]; omega
        · have hje : j = nk := by omega
          subst hje
          have hd0 : G.drop j = [] := List.drop_of_length_le (by rw [HGL.out]; exact Nat.le_refl _)
          rw [hd0] at hrj
          have hn0 : nj = 0 := by have := hrj.1; simpa [cat] using this.symm
          subst hn0
          clear hrj hd0
          go_wp2
          go_ret
          exact ⟨rfl, hbw.trans (hbq.mono hzw)⟩

end Go.Proofs.Ytdpajcamgipgkaa
