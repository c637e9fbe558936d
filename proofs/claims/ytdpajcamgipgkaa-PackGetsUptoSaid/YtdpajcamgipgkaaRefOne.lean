/- The document's One. -/
import Derived.Test.YtdpajcamgipgkaaRefNum
import Derived.Test.YtdpajcamgipgkaaValue
import Derived.Test.YtdpajcamgipgkaaSame
import Derived.Test.YtdpajcamgipgkaaOnes
namespace Go.Proofs.Ytdpajcamgipgkaa
open Go.RowKit

theorem load_five3 {w : World} {B : Nat} {c0 c1 c2 c3 c4 : Value} (h : w.heap[B]? = some (.cells #[c0, c1, c2, c3, c4] 81 (0, 0))) : (loadVar 81 ⟨B, 0, none⟩).run Try.prog w = .ok (.agg #[c0, c1, c2, c3, c4]) w := by
  refine run_loadVar_mid w B 0 _ [c0, c1, c2, c3, c4] _ (fun j v hv => ?_) Try.underlying81 rfl (by kernel_rfl)
  simp only [World.cell?, h, Nat.zero_add]
  rw [← hv]
  simp

/-- two results, the first in a variable -/
theorem results_cell_tmp {fn : Func} {p q : Tmp} {ty : TypeId} (h : fn.results = #[.cell p ty, .tmp q]) {tmps : Array Value} {P : Program} {w : World} {a : Addr} {v : Value} (ha : tmps.getD p undef = .pointer (some a)) (hl : (loadVar ty a).run P w = .ok v w) : (results fn tmps).run P w = .ok (.tuple #[v, tmps.getD q undef]) w := by
  have h1 : (asAddr (tmps.getD p undef)).run P w = .ok a w := by rw [ha]; rfl
  have e : (results fn tmps).run P w = ((asAddr (tmps.getD p undef)).run P w).andThen fun a w₁ => ((loadVar ty a).run P w₁).andThen fun v w₂ => .ok (.tuple #[v, tmps.getD q undef]) w₂ := by
    simp only [results, h]
    simp [Sem.run_bind, Result.andThen]
  rw [e, h1]
  simp only [Result.andThen_ok, hl]

theorem one_first {w : World} {c0 c1 c2 c3 c4 : Value} {o : Obj} : ((w.alloc (.cells #[c0, c1, c2, c3, c4] 81)).alloc o).heap[w.heap.size]? = some (.cells #[c0, c1, c2, c3, c4] 81 (0, 0)) :=
  (heap_alloc_old _ _ (by rw [World.size_alloc]; omega)).trans (heap_alloc_new w _)
theorem one_below (w : World) (o o' : Obj) : Below w.heap.size w ((w.alloc o).alloc o') := ((Below.refl _ _).alloc (Nat.le_refl _) _).alloc (by rw [World.size_alloc]; omega) _

/-- what One comes to: five cells and a count -/
def OneAs (w : World) (p : Pv) (k : Nat) (e : Ending) (w' : World) : Prop := ∃ a n c, e = .returned (.tuple #[.agg #[.int .i64 p.kind, .int .i64 p.n, .float .f64 p.x, .slice a n c, .bool p.on], .int .i64 (k : Nat)]) ∧ Own8 w' w.heap.size a n c p.bs ∧ Below w.heap.size w w'

set_option maxRecDepth 100000 in
set_option maxHeartbeats 3200000 in
theorem one_1 (a : Option Addr) (len cap : Nat) (bs : List UInt8) (w : World) (hr : Row8 w a len bs) (hl : len ≤ maxLen) :
    Calls Try.prog 63 #[.slice a len cap, .int .i64 1] w (OneAs w ⟨1, (numK bs).1, 0, [], false⟩ (numK bs).2) := by
  have hstf := store_float
  have hget := fun w' (h : Row8 w' a len bs) => refGetNum_any a len cap bs w' h hl
  have HG := Lib.hid hget
  have HR := Lib.hid hr
  clear hget hr
  go_enter Try.func63, Try.ntmps63
  go_wp2_with fail
  refine (HG.out _ ((HR.out.alloc _).alloc _)).mono ?_
  rintro e w1 ⟨rfl, rfl⟩
  go_wp2_with fail
  exact bodyPost_ret (results_cell_tmp Try.results63 rfl (load_five3 one_first)) rfl ⟨none, 0, 0, rfl, Own8.nil _ _, one_below _ _ _⟩

set_option maxRecDepth 100000 in
set_option maxHeartbeats 3200000 in
theorem one_4 (a : Option Addr) (len cap : Nat) (bs : List UInt8) (w : World) (hr : Row8 w a len bs) :
    Calls Try.prog 63 #[.slice a len cap, .int .i64 4] w (match getFlag bs with
      | none => OneAs w ⟨4, 0, 0, [], false⟩ 0
      | some (b, _) => OneAs w ⟨4, 0, 0, [], b⟩ 1) := by
  have hstf := store_float
  cases bs with
  | nil =>
    have hl : len = 0 := hr.1.symm
    subst hl
    simp only [getFlag]
    clear hr
    go_enter Try.func63, Try.ntmps63
    go_wp2_with fail
    exact bodyPost_ret (results_cell_tmp Try.results63 rfl (load_five3 one_first)) rfl ⟨none, 0, 0, rfl, Own8.nil _ _, one_below _ _ _⟩
  | cons c r =>
    have hl : 0 < len := by rw [← hr.1]; simp
    obtain ⟨b, off, rfl, x, hx, hxb, hcell⟩ := hr.at 0 hl
    rw [Nat.add_zero] at hcell
    have hxc : c.toNat = x := hxb.out
    have hl0 : ((len : Int) == 0) = false := by simp; omega
    have hl1 : (0 : Int) < (len : Int) := by omega
    have hcs := World.block_lt_of_cell? w _ hcell
    clear hxb hr
    by_cases h1 : x ≤ 1
    · have h1' : ¬ (1 : Int) < (x : Int) := by omega
      have e : getFlag (c :: r) = some (decide (x = 1), r) := by rw [getFlag, hxc, if_pos h1]
      rw [e]
      simp only
      clear e hxc
      go_enter Try.func63, Try.ntmps63
      go_wp2_with fail
      refine bodyPost_ret (results_cell_tmp Try.results63 rfl (load_five3 one_first)) rfl ⟨none, 0, 0, ?_, Own8.nil _ _, one_below _ _ _⟩
      rw [show ((x : Int) == 1) = decide (x = 1) from nat_beq x 1]
      rfl
    · have h1' : (1 : Int) < (x : Int) := by omega
      have e : getFlag (c :: r) = none := by rw [getFlag, hxc, if_neg h1]
      rw [e]
      simp only
      clear e hxc
      go_enter Try.func63, Try.ntmps63
      go_wp2_with fail
      exact bodyPost_ret (results_cell_tmp Try.results63 rfl (load_five3 one_first)) rfl ⟨none, 0, 0, rfl, Own8.nil _ _, one_below _ _ _⟩

theorem be_step (un x : Nat) (hu : un < 72057594037927936) (hx : x < 256) : IntKind.u64.wrap (IntKind.u64.wrap ((un : Int) * 256) + (x : Int)) = ((un * 256 + x : Nat) : Int) := by
  rw [IntKind.wrap_u64, IntKind.wrap_u64]
  omega

def One2 (w : World) (o : Option (Nat × List UInt8)) (e : Ending) (w' : World) : Prop := match o with
  | none => OneAs w ⟨2, 0, 0, [], false⟩ 0 e w'
  | some (x, _) => OneAs w ⟨2, 0, x, [], false⟩ 8 e w'
theorem One2.no {w : World} {o : Option (Nat × List UInt8)} {e : Ending} {w' : World} (ho : o = none) (h : OneAs w ⟨2, 0, 0, [], false⟩ 0 e w') : One2 w o e w' := by subst ho; exact h
theorem One2.yes {w : World} {o : Option (Nat × List UInt8)} {x : Nat} {r : List UInt8} {e : Ending} {w' : World} (ho : o = some (x, r)) (h : OneAs w ⟨2, 0, x, [], false⟩ 8 e w') : One2 w o e w' := by subst ho; exact h

set_option maxRecDepth 100000 in
set_option maxHeartbeats 3200000 in
theorem one_2 (a : Option Addr) (len cap : Nat) (bs : List UInt8) (w : World) (hr : Row8 w a len bs) :
    Calls Try.prog 63 #[.slice a len cap, .int .i64 2] w (One2 w (getKey bs)) := by
  have hstf := store_float
  have hbl := hr.1
  by_cases h8 : 8 ≤ len
  · have h8i : ¬ (len : Int) < 8 := by omega
    have HR := Lib.hid hr
    have HBL := Lib.hid hbl
    have hl8 : (bs.take 8).length = 8 := by rw [List.length_take]; omega
    have HL8 := Lib.hid hl8
    have hkey : getKey bs = if Flo.isCode (be (bs.take 8)) = true then some (Flo.of (be (bs.take 8)), bs.drop 8) else none := by
      rw [getKey]
      by_cases hc : Flo.isCode (be (bs.take 8)) = true
      · rw [if_pos ⟨by omega, hc⟩, if_pos hc]
      · rw [if_neg (fun h => hc h.2), if_neg hc]
    have HKEY := Lib.hid hkey
    clear hr hbl hl8 hkey
    go_enter Try.func63, Try.ntmps63
    go_wp2_with fail
    obtain ⟨X, hX⟩ : ∃ X, X = ((w.alloc (.cells #[.int .i64 0, .int .i64 0, .float .f64 0, .slice none 0 0, .bool false] 81)).alloc (.cells #[.int .i64 2, .int .i64 0, .float .f64 0, .slice none 0 0, .bool false] 81)) := ⟨_, rfl⟩
    rw [← hX]
    have HRX : Hid (Row8 X a len bs) := by rw [hX]; exact (HR.out.alloc _).alloc _
    have HX := Lib.hid hX
    clear hX
    go_loopw [9, 10] (fun u i wr => ∃ (un k : Nat), k ≤ 8 ∧ Hid (un = be ((bs.take 8).take k)) ∧ u = .int .u64 (un : Nat) ∧ i = .int .i64 k ∧ SameW X wr) (fun _ i _ => 8 - (intOf i).toNat)
    case atStart => exact ⟨0, 0, by omega, rfl, rfl, rfl, rfl⟩
    case round =>
      obtain ⟨un, k, hk, HU, rfl, rfl, hsame⟩ := hrel
      have hsame : X = wr := hsame
      subst hsame
      by_cases hlt : k < 8
      · obtain ⟨b, off, rfl, x, hx, hxb, hcell⟩ := HRX.out.at k (by omega)
        have hun : un < 72057594037927936 := by
          have h1 := be_lt ((bs.take 8).take k) k (by rw [List.length_take, HL8.out]; omega)
          have h2 : 256 ^ k ≤ 256 ^ 7 := Nat.pow_le_pow_right (by decide) (by omega)
          rw [HU.out]
          omega
        have hsnoc : un * 256 + x = be ((bs.take 8).take (k + 1)) := by
          rw [List.take_succ_eq_append_getElem (by rw [HL8.out]; exact hlt), be_snoc, HU.out]
          have e1 := hxb.out
          rw [List.getD_eq_getElem?_getD, List.getElem?_eq_getElem (by rw [HBL.out]; omega)] at e1
          rw [List.getElem_take, ← e1]
          rfl
        have HS := Lib.hid hsnoc
        have hstep := be_step un x hun hx
        obtain ⟨V, hV2⟩ : ∃ V, V = un * 256 + x := ⟨_, rfl⟩
        have hV : V < 18446744073709551616 := by omega
        rw [← hV2] at hstep HS
        have hkl : (k : Int) < 8 := by omega
        have hkl2 : (k : Int) < (len : Int) := by omega
        have HV2 := Lib.hid hV2
        clear hsnoc hxb hV2
        go_wp2_with fail
        go_roundw
        case rel => exact ⟨V, k + 1, by omega, HS, val_int (by have := HV2.out; omega), by go_num, rfl⟩
        case measure => simp [intOf]; omega
      · have hke : k = 8 := by omega
        subst hke
        have hue : un = be (bs.take 8) := by rw [HU.out, List.take_of_length_le (by rw [HL8.out]; omega)]
        have hlt64 : un < 18446744073709551616 := by
          rw [hue]
          exact be_lt (bs.take 8) 8 HL8.out
        have HUE := Lib.hid hue
        have HLT := Lib.hid hlt64
        clear hue hlt64 HU
        go_wp2_with fail
        refine (refIsCode_any un _ HLT.out).mono ?_
        rintro e w2 ⟨rfl, rfl⟩
        rw [← Flo.code_of un HLT.out]
        cases hcode : Flo.isCode un with
        | true =>
          have e : getKey bs = some (Flo.of un, bs.drop 8) := by rw [HKEY.out, ← HUE.out, if_pos hcode]
          have HE := Lib.hid e
          clear e hcode
          go_wp2_with fail
          refine (refOf_any un _ HLT.out).mono ?_
          rintro e w2 ⟨rfl, rfl⟩
          rw [HX.out]
          go_wp2_with fail
          exact bodyPost_ret (results_cell_tmp Try.results63 rfl (load_five3 one_first)) rfl (One2.yes HE.out ⟨none, 0, 0, rfl, Own8.nil _ _, one_below _ _ _⟩)
        | false =>
          have e : getKey bs = none := by rw [HKEY.out, ← HUE.out, hcode]; rfl
          have HE := Lib.hid e
          clear e hcode
          rw [HX.out]
          go_wp2_with fail
          exact bodyPost_ret (results_cell_tmp Try.results63 rfl (load_five3 one_first)) rfl (One2.no HE.out ⟨none, 0, 0, rfl, Own8.nil _ _, one_below _ _ _⟩)
  · have h8i : (len : Int) < 8 := by omega
    have e : getKey bs = none := by rw [getKey, if_neg (fun h => by have := h.1; omega)]
    have HE := Lib.hid e
    clear e hr hbl
    go_enter Try.func63, Try.ntmps63
    go_wp2_with fail
    exact bodyPost_ret (results_cell_tmp Try.results63 rfl (load_five3 one_first)) rfl (One2.no HE.out ⟨none, 0, 0, rfl, Own8.nil _ _, one_below _ _ _⟩)

theorem numK_get {bs r : List UInt8} {n : Int} (h : getNum bs = some (n, r)) : numK bs = (n, bs.length - r.length) := by
  rw [getNum] at h
  cases hg : numGo 0 0 bs with
  | none => rw [hg] at h; cases h
  | some q =>
    obtain ⟨v, t⟩ := q
    rw [hg] at h
    simp only [Option.map_some, Option.some.injEq, Prod.mk.injEq] at h
    obtain ⟨rfl, rfl⟩ := h
    rw [numK, hg]
theorem numK_no {bs : List UInt8} (h : getNum bs = none) : numK bs = (0, 0) := by
  rw [getNum] at h
  cases hg : numGo 0 0 bs with
  | none => exact numK_none hg
  | some q => rw [hg] at h; cases h

theorem row_none {w : World} {a : Option Addr} {m : Nat} {t : List UInt8} (h : m = 0) : Row8 w a m (t.take m) := by
  subst h
  exact Row8.nil _ _
def One3 (w : World) (len : Nat) (o : Option (List UInt8 × List UInt8)) (e : Ending) (w' : World) : Prop := match o with
  | none => OneAs w ⟨3, 0, 0, [], false⟩ 0 e w'
  | some (ys, r) => OneAs w ⟨3, 0, 0, ys, false⟩ (len - r.length) e w'
theorem One3.no {w : World} {len : Nat} {o : Option (List UInt8 × List UInt8)} {e : Ending} {w' : World} (ho : o = none) (h : OneAs w ⟨3, 0, 0, [], false⟩ 0 e w') : One3 w len o e w' := by subst ho; exact h
theorem One3.yes {w : World} {len k : Nat} {o : Option (List UInt8 × List UInt8)} {ys r : List UInt8} {e : Ending} {w' : World} (ho : o = some (ys, r)) (hk : len - r.length = k) (h : OneAs w ⟨3, 0, 0, ys, false⟩ k e w') : One3 w len o e w' := by subst ho hk; exact h

set_option maxRecDepth 100000 in
set_option maxHeartbeats 3200000 in
theorem one_3 (a : Option Addr) (len cap : Nat) (bs : List UInt8) (w : World) (hr : Row8 w a len bs) (hlc : len ≤ cap) (hcm : cap ≤ maxLen) :
    Calls Try.prog 63 #[.slice a len cap, .int .i64 3] w (One3 w len (getBytes bs)) := by
  have hstf := store_float
  have hbl := hr.1
  have hl63 : cap ≤ 9223372036854775807 := by simpa [maxLen] using hcm
  have hget := fun w' (h : Row8 w' a len bs) => refGetNum_any a len cap bs w' h (by omega)
  have HR := Lib.hid hr
  cases hg : getNum bs with
  | none =>
    have e : getBytes bs = none := by rw [getBytes, getCount, hg]
    rw [numK_no hg] at hget
    have HG := Lib.hid hget
    have HE := Lib.hid e
    clear hget hr hbl e hg
    go_enter Try.func63, Try.ntmps63
    go_wp2_with fail
    refine (HG.out _ ((HR.out.alloc _).alloc _)).mono ?_
    rintro e w1 ⟨rfl, rfl⟩
    go_wp2_with fail
    exact bodyPost_ret (results_cell_tmp Try.results63 rfl (load_five3 one_first)) rfl (One3.no HE.out ⟨none, 0, 0, rfl, Own8.nil _ _, one_below _ _ _⟩)
  | some q =>
    obtain ⟨n, t⟩ := q
    obtain ⟨h1, hn⟩ := num_getNum hg
    have hpos := numBytes_pos n
    have hp10 := numBytes_len n
    obtain ⟨K, hK⟩ : ∃ K, K = (numBytes n).length := ⟨_, rfl⟩
    have hlen : len = K + t.length := by rw [← hbl, h1, List.length_append, hK]
    rw [numK_get hg, hbl, show len - t.length = K from by omega] at hget
    have ht : t = bs.drop K := by rw [hK, h1, List.drop_left]
    rw [← hK] at hpos hp10
    have hk0 : ((K : Int) == 0) = false := by simp; omega
    have hrt : ∀ w', Row8 w' a len bs → Row8 w' (Option.map (fun x => x.add K) a) (len - K) t := fun w' h => by rw [ht]; exact h.drop K (by omega)
    have HRT := Lib.hid hrt
    have HG := Lib.hid hget
    by_cases hbad : n < 0 ∨ 4096 < n
    · have e : getBytes bs = none := by
        have : getCount 4096 bs = none := by rw [getCount, hg]; simp only; rw [if_pos hbad]
        rw [getBytes, this]
      have HE := Lib.hid e
      clear hget hr hbl e hg h1 hK ht hlen hrt
      have hcs : n < 0 ∨ (¬ n < 0 ∧ 4096 < n) := by omega
      clear hbad
      rcases hcs with q1 | ⟨q1, q2⟩
      all_goals
        go_enter Try.func63, Try.ntmps63
        go_wp2_with fail
        refine (HG.out _ ((HR.out.alloc _).alloc _)).mono ?_
        rintro e w1 ⟨rfl, rfl⟩
        go_wp2_with fail
        exact bodyPost_ret (results_cell_tmp Try.results63 rfl (load_five3 one_first)) rfl (One3.no HE.out ⟨none, 0, 0, rfl, Own8.nil _ _, one_below _ _ _⟩)
    · obtain ⟨m, rfl⟩ : ∃ m : Nat, n = (m : Int) := ⟨n.toNat, by omega⟩
      have q1 : ¬ (m : Int) < 0 := by omega
      have q2 : ¬ (4096 : Int) < (m : Int) := by omega
      have hc : getCount 4096 bs = some ((m : Int), t) := by rw [getCount, hg]; simp only; rw [if_neg hbad]
      have e : getBytes bs = if m ≤ t.length then some (t.take m, t.drop m) else none := by rw [getBytes, hc]; rfl
      by_cases hm : m ≤ t.length
      · rw [if_pos hm] at e
        have q3 : ¬ (len : Int) - (K : Int) < (m : Int) := by omega
        have q4 : (0 : Int) ≤ (K : Int) := by omega
        have q5 : (K : Int) ≤ (K : Int) + (m : Int) := by omega
        have q6 : (K : Int) + (m : Int) ≤ (cap : Int) := by omega
        have hcnt : len - (t.drop m).length = K + m := by rw [List.length_drop]; omega
        have HE := Lib.hid e
        have HCNT := Lib.hid hcnt
        have hrow : ∀ w', Row8 w' a len bs → Row8 w' (Option.map (fun x => x.add K) a) m (t.take m) := fun w' h => (HRT.out w' h).take m (by omega)
        have HROW := Lib.hid hrow
        clear hget hr hbl e hg h1 hK ht hrt hbad hc hcnt hrow hlen
        go_enter Try.func63, Try.ntmps63
        go_wp2_with fail
        refine (HG.out _ ((HR.out.alloc _).alloc _)).mono ?_
        rintro e w1 ⟨rfl, rfl⟩
        go_wp2_with fail
        all_goals
          have hXs : ((w.alloc (.cells #[.int .i64 0, .int .i64 0, .float .f64 0, .slice none 0 0, .bool false] 81)).alloc (.cells #[.int .i64 3, .int .i64 0, .float .f64 0, .slice none 0 0, .bool false] 81)).heap.size = w.heap.size + 2 := by rw [World.size_alloc, World.size_alloc]
          refine (join_any (w.heap.size + 2) none 0 0 [] _ m _ (t.take m) _ (Own8.nil _ _) (by first | exact HROW.out _ ((HR.out.alloc _).alloc _) | exact row_none (by omega)) (fun _ _ _ _ h => by cases h) (by rw [hXs]; exact Nat.le_refl _) (by omega) m (by omega)).mono ?_
          rintro e w2 ⟨aq, cq, rfl, hown, hg2, _⟩
          rw [List.nil_append] at hown
          have hA := (hg2.block w.heap.size (by rw [hXs]; omega) (fun e => by cases e)).trans one_first
          have hB := (hg2.block (w.heap.size + 1) (by rw [hXs]; omega) (fun e => by cases e)).trans (two_second w #[.int .i64 0, .int .i64 0, .float .f64 0, .slice none 0 0, .bool false] #[.int .i64 3, .int .i64 0, .float .f64 0, .slice none 0 0, .bool false] 81 81)
          have hb2 : Below w.heap.size w w2 := (one_below w _ _).grown hg2 (by rw [hXs]; omega) (fun g hg => by cases hg)
          have hz2 := hg2.size
          rw [hXs] at hz2
          obtain ⟨a0, a1, a2, a3, a4, f0, f1, f2, f3, f4⟩ := five_cells hA
          obtain ⟨b0, b1, b2, b3, b4, g0, g1, g2, g3, g4⟩ := five_cells hB
          have HA := Lib.hid hA
          have HO := Lib.hid hown
          have HB2 := Lib.hid hb2
          clear hA hB hown hb2 hg2 hXs
          go_wp2_with fail
          have hF := set_block (i := 4) (set_block (i := 3) (set_block (i := 2) (set_block (i := 1) (set_block (i := 0) ((Below.heap_setCell w2 ⟨w.heap.size + 1, 3, none⟩ (.slice aq m cq) w.heap.size (by simp)).trans HA.out) (.int .i64 3)) (.int .i64 0)) (.float .f64 0)) (.slice aq m cq)) (.bool false)
          refine bodyPost_ret (results_cell_tmp Try.results63 rfl (load_five3 (c0 := .int .i64 3) (c1 := .int .i64 0) (c2 := .float .f64 0) (c3 := .slice aq m cq) (c4 := .bool false) hF)) rfl (One3.yes HE.out HCNT.out ⟨aq, m, cq, rfl, (Touch.own HO.out (touch_six _ _ _ _ _ _ _ _ _) (fun k hk => by simp at hk; omega)).more (by omega), Touch.below (touch_six _ _ _ _ _ _ _ _ _) HB2.out (by omega) (fun k hk => by simp at hk; omega)⟩)
      · rw [if_neg hm] at e
        have q3 : (len : Int) - (K : Int) < (m : Int) := by omega
        have HE := Lib.hid e
        clear hget hr hbl e hg h1 hK ht hrt hbad hc hlen
        go_enter Try.func63, Try.ntmps63
        go_wp2_with fail
        refine (HG.out _ ((HR.out.alloc _).alloc _)).mono ?_
        rintro e w1 ⟨rfl, rfl⟩
        go_wp2_with fail
        exact bodyPost_ret (results_cell_tmp Try.results63 rfl (load_five3 one_first)) rfl (One3.no HE.out ⟨none, 0, 0, rfl, Own8.nil _ _, one_below _ _ _⟩)
end Go.Proofs.Ytdpajcamgipgkaa
