/- Get: the values that bytes are. -/
import Derived.Test.YtdpajcamgipgkaaGet2
namespace Go.Proofs.Ytdpajcamgipgkaa
open Go.RowKit

theorem own_more {w : World} {base base' : Nat} {e : TypeId} {size : Nat} {v : Value} {n : Nat} {xs : List Value} (h : w.ownsRow base e size v n xs) (hb : base' ≤ base) : w.ownsRow base' e size v n xs := by
  refine ⟨h.1, ?_⟩
  rcases h.2 with hv | ⟨g, cp, cur, hv, hbg, r⟩
  · exact .inl hv
  · exact .inr ⟨g, cp, cur, hv, by omega, r⟩

def getV (zs : List Int) (bs : List UInt8) : List Pv × Nat :=
  if zs.any badKind = true then ([], 1) else
    match getAcc zs bs [] with
    | some (ps, []) => (ps, 0)
    | _ => ([], 30)

/-- It returns these values, in memory of its own, and a code. -/
def RetGet (w : World) (r : List Pv × Nat) (e : Ending) (w' : World) : Prop :=
  ∃ vs ao n cap, e = .returned (.tuple #[.slice ao n cap, .int .i64 (r.2 : Nat)]) ∧ vs.map Vl.pv = r.1 ∧ OwnVals w' w.heap.size vs ao n cap ∧ Below w.heap.size w w'

def getBox (w : World) (az : Option Addr) (nz cz : Nat) : World := (w.alloc (.cells #[.slice az nz cz] 55)).alloc (.cells #[.slice none 0 0] 48)
theorem getBox_size (w : World) (az : Option Addr) (nz cz : Nat) : (getBox w az nz cz).heap.size = w.heap.size + 2 := by unfold getBox; rw [World.size_alloc, World.size_alloc]
theorem getBox_below (w : World) (az : Option Addr) (nz cz : Nat) : Below w.heap.size w (getBox w az nz cz) := ((Below.refl _ _).alloc (Nat.le_refl _) _).alloc (by rw [World.size_alloc]; omega) _
theorem getBox_z (w : World) (az : Option Addr) (nz cz : Nat) : (getBox w az nz cz).heap[w.heap.size]? = some (.cells #[.slice az nz cz] 55 (0, 0)) :=
  (heap_alloc_old _ _ (by rw [World.size_alloc]; omega)).trans (heap_alloc_new w _)
theorem getBox_k (w : World) (az : Option Addr) (nz cz : Nat) : (getBox w az nz cz).heap[w.heap.size + 1]? = some (.cells #[.slice none 0 0] 48 (0, 0)) := by
  have := heap_alloc_new (w.alloc (.cells #[.slice az nz cz] 55)) (.cells #[.slice none 0 0] 48)
  rw [World.size_alloc] at this
  exact this

theorem enters_get2 (args : Array Value) (w : World) : (callFunc 61 args).run Try.prog w = .ok (.enter 61 args) w := enters Try.func61 (by kernel_rfl) rfl args w

/-- what the Read in a Get comes to -/
def GetRead (w : World) (zs : List Int) (bs : List UInt8) (e : Ending) (w' : World) : Prop :=
  Below w.heap.size w w' ∧
  ((∃ ps rest vs ao n cap, getAcc zs bs [] = some (ps, rest) ∧ e = .returned (.int .i64 (if rest = [] then 0 else 30)) ∧ vs.map Vl.pv = ps ∧ w'.heap[w.heap.size + 1]? = some (.cells #[.slice ao n cap] 48 (0, 0)) ∧ OwnVals w' w.heap.size vs ao n cap) ∨
   (getAcc zs bs [] = none ∧ e = .returned (.int .i64 30)))

theorem get_read (a : Option Addr) (len cap : Nat) (bs : List UInt8) (az : Option Addr) (nz cz : Nat) (zs : List Int) (w : World) (hr : Row8 w a len bs) (hlc : len ≤ cap) (hcm : cap ≤ maxLen) (hn : a = none → cap = 0)
    (hrow : RowN w az 1 nz (cellsI zs)) (hnz : nz ≤ 1000000000) (hgood : ∀ z ∈ zs, 1 ≤ z ∧ z ≤ 4) :
    Calls Try.prog 25 #[.slice a len cap, .func (.func 61) #[] #[.pointer (some ⟨w.heap.size, 0, none⟩), .pointer (some ⟨w.heap.size + 1, 0, none⟩)]] (getBox w az nz cz) (GetRead w zs bs) := by
  have hsz := getBox_size w az nz cz
  have hbl := getBox_below w az nz cz
  have hs2 := readStart_size (getBox w az nz cz) a len cap
  have hb2 := readStart_below (getBox w az nz cz) a len cap
  have hrow2 : RowN (readStart (getBox w az nz cz) a len cap) az 1 nz (cellsI zs) := ((hrow.alloc _).alloc _).alloc _ |>.alloc _
  have hap : ∀ b off, az = some ⟨b, off, none⟩ → 0 < nz → b < w.heap.size := by
    intro b off e hn
    obtain ⟨b', off', e', hc⟩ := hrow.at 0 (by omega)
    rw [e] at e'
    injection e' with e'
    injection e' with e1
    have := World.block_lt_of_cell? w _ hc
    simp only at this
    omega
  have key := read_any 61 #[.pointer (some ⟨w.heap.size, 0, none⟩), .pointer (some ⟨w.heap.size + 1, 0, none⟩)] a len cap (getBox w az nz cz)
    (fun rest w' => ∃ ps vs ao n cap', getAcc zs bs [] = some (ps, rest) ∧ vs.map Vl.pv = ps ∧ w'.heap[w.heap.size + 1]? = some (.cells #[.slice ao n cap'] 48 (0, 0)) ∧ OwnVals w' (w.heap.size + 4) vs ao n cap' ∧ Touch [w.heap.size + 3, w.heap.size + 1] (readStart (getBox w az nz cz) a len cap) w')
    (fun code w' => getAcc zs bs [] = none ∧ code = 30 ∧ Touch [w.heap.size + 3, w.heap.size + 1] (readStart (getBox w az nz cz) a len cap) w') enters_get2
    ((get2_any ((getBox w az nz cz).heap.size + 1) w.heap.size (w.heap.size + 1) az nz cz zs bs (readStart (getBox w az nz cz) a len cap)
      (Rd.start ((hr.alloc _).alloc _) hlc hcm hn) ((readStart_old (by omega)).trans (getBox_z w az nz cz)) ((readStart_old (by omega)).trans (getBox_k w az nz cz)) hrow2 (fun b off e h0 => by have := hap b off e h0; omega) (by omega) hnz hgood).mono fun e w' hp => by
        obtain ⟨ht, hok, hno⟩ := hp
        rw [hsz] at ht hok
        rw [hs2, hsz] at hok
        have hcode : w'.heap[(getBox w az nz cz).heap.size]? = some (.cells #[.int .i64 0] 29 (0, 0)) :=
          (ht.block _ (by omega) (by simp; omega)).trans ((heap_alloc_old _ _ (by rw [World.size_alloc]; omega)).trans (heap_alloc_new (getBox w az nz cz) _))
        refine ⟨hcode, ?_⟩
        cases hres : getAcc zs bs [] with
        | none => exact .inr ⟨30, hno hres, rfl, rfl, ht⟩
        | some p =>
          obtain ⟨ps, rest⟩ := p
          obtain ⟨he, hrd, vs, ao, n, cap', h1, h2, h3⟩ := hok ps rest hres
          exact .inl ⟨rest, he, by rw [hsz]; exact hrd, ps, vs, ao, n, cap', rfl, h1, h2, h3, ht⟩)
  refine key.mono fun e w' hp => ?_
  have hS : ∀ k ∈ [w.heap.size + 3, w.heap.size + 1], w.heap.size ≤ k := by simp
  rcases hp with ⟨rest, w1, ⟨ps, vs, ao, n, cap', h1, h2, h3, h4, ht⟩, he, hle, hg⟩ | ⟨code, w1, ⟨h1, hc, ht⟩, he, hg⟩
  · have hbw := ht.below (hbl.trans ⟨hb2.os, hb2.tape, hb2.output, hb2.size, fun k hk => hb2.block k (by omega)⟩) (by omega) hS
    have hl := lt_of_block h3
    refine ⟨hbw.grown hg (by have := hbw.size; omega) (fun k hk => by injection hk; omega), .inl ⟨ps, rest, vs, ao, n, cap', h1, he, h2, ?_, ?_⟩⟩
    · rw [hg.block _ hl (fun e => by injection e; omega)]
      exact h3
    · have h5 : OwnVals w' (w.heap.size + 4) vs ao n cap' := h4.keep fun g hb hl => hg.block g hl (fun e => by injection e; omega)
      exact ⟨h5.len, own_more h5.row (by omega), fun v hv => (h5.own v hv).more (by omega)⟩
  · have hbw := ht.below (hbl.trans ⟨hb2.os, hb2.tape, hb2.output, hb2.size, fun k hk => hb2.block k (by omega)⟩) (by omega) hS
    exact ⟨hbw.grown hg (by have := hbw.size; omega) (fun k hk => by injection hk; omega), .inr ⟨h1, by rw [he, hc]⟩⟩

set_option maxRecDepth 100000 in
set_option maxHeartbeats 1600000 in
theorem get_any (a : Option Addr) (len cap : Nat) (bs : List UInt8) (az : Option Addr) (nz cz : Nat) (zs : List Int) (w : World) (hr : Row8 w a len bs) (hlc : len ≤ cap) (hcm : cap ≤ maxLen) (hn : a = none → cap = 0)
    (hrow : RowN w az 1 nz (cellsI zs)) (hnz : nz ≤ 1000000000) :
    Calls Try.prog 37 #[.slice a len cap, .slice az nz cz] w (RetGet w (getV zs bs)) := by
  have hc := contains_any az nz cz zs (w.alloc (.cells #[.slice az nz cz] 55)) (hrow.alloc _) (by simp only [maxLen]; omega)
  cases hb : zs.any badKind with
  | true =>
    rw [hb] at hc
    have e : getV zs bs = ([], 1) := by rw [getV, if_pos hb]
    have HC := Lib.hid hc
    have HE := Lib.hid e
    clear hc hb e hr hn hrow
    go_enter Try.func37, Try.ntmps37
    go_wp2_with fail
    refine HC.out.mono ?_
    rintro e w1 ⟨rfl, rfl⟩
    go_wp2_with fail
    go_ret2
    rw [HE.out]
    exact ⟨[], none, 0, 0, rfl, rfl, OwnVals.nil _ _, (Below.refl _ _).alloc (Nat.le_refl _) _⟩
  | false =>
    rw [hb] at hc
    have hgood : ∀ z ∈ zs, 1 ≤ z ∧ z ≤ 4 := fun z hz => badKind_no (by
      cases h : badKind z with
      | false => rfl
      | true => rw [List.any_eq_true.2 ⟨z, hz, h⟩] at hb; cases hb)
    have hread := get_read a len cap bs az nz cz zs w hr hlc hcm hn hrow hnz hgood
    have hmf := hmf
    have e : getV zs bs = match getAcc zs bs [] with
      | some (ps, []) => (ps, 0)
      | _ => ([], 30) := by rw [getV, if_neg (by simp [hb])]
    have HC := Lib.hid hc
    have HE := Lib.hid e
    have HRD := Lib.hid hread
    clear hc hb e hr hn hrow hread hgood
    go_enter Try.func37, Try.ntmps37
    go_wp2_with fail
    refine HC.out.mono ?_
    rintro e w1 ⟨rfl, rfl⟩
    go_wp2_with fail
    refine HRD.out.mono ?_
    rintro e w1 ⟨hbw, ⟨ps, rest, vs, ao, n, cap', h1, rfl, h2, h3, h4⟩ | ⟨h1, rfl⟩⟩
    · have hcK := cell_of_one h3
      have hfK := free_of_one h3
      have H1 := Lib.hid h1
      have H3 := Lib.hid h3
      have H4 := Lib.hid h4
      have HB := Lib.hid hbw
      cases rest with
      | nil =>
        rw [if_pos rfl]
        clear h1 h3 h4 hbw
        go_wp2_with fail
        go_ret2
        rw [HE.out, H1.out]
        exact ⟨vs, ao, n, cap', rfl, h2, H4.out, HB.out⟩
      | cons c r =>
        rw [if_neg (by simp)]
        clear h1 h3 h4 hbw
        go_wp2_with fail
        go_ret2
        rw [HE.out, H1.out]
        exact ⟨[], none, 0, 0, rfl, rfl, OwnVals.nil _ _, HB.out⟩
    · have H1 := Lib.hid h1
      have HB := Lib.hid hbw
      clear h1 hbw
      go_wp2_with fail
      go_ret2
      rw [HE.out, H1.out]
      exact ⟨[], none, 0, 0, rfl, rfl, OwnVals.nil _ _, HB.out⟩
end Go.Proofs.Ytdpajcamgipgkaa
