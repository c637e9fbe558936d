/- PackFails: what fails by itself is answered by its own error: the walk. -/
import Derived.Test.YtdpajcamgipgkaaReadVar
import Derived.Test.YtdpajcamgipgkaaFraming
namespace Go.Proofs.Ytdpajcamgipgkaa
open Go.RowKit

set_option maxHeartbeats 800000 in
theorem reading1_any (R N : Nat) (x : Int) (bs : List UInt8) (w : World) (hr : Rd w R bs) (hN : w.heap[N]? = some (.cells #[.int .i64 x] 2 (0, 0))) (hne : N ≠ R) :
    Calls Try.prog 52 #[.pointer (some ⟨R, 0, none⟩), .pointer (some ⟨N, 0, none⟩)] w (VarPost w R [R, N] (getNum bs) fun v w' => Holds [(N, .cells #[.int .i64 v] 2 (0, 0))] w') := by
  have HR := Lib.hid hr
  have HN := Lib.hid hN
  clear hr hN
  have hc := num_any R bs w HR.out
  cases hg : getNum bs with
  | none =>
    rw [hg] at hc
    have HC := Lib.hid hc
    clear hc hg
    go_enter Try.func52, Try.ntmps52
    go_wp2_with fail
    refine HC.out.mono ?_
    intro e w' hp
    obtain ⟨rfl, hgr⟩ := hp.no rfl
    simp only [Wrong]
    go_wp2
    exact ⟨rfl, VarPost.mk_no rfl (Touch.of_grown hgr (by simp))⟩
  | some p =>
    obtain ⟨v, rest⟩ := p
    rw [hg] at hc
    have HC := Lib.hid hc
    clear hc hg
    go_enter Try.func52, Try.ntmps52
    go_wp2_with fail
    refine HC.out.mono ?_
    intro e w' hp
    obtain ⟨rfl, hrd, hgr⟩ := hp.ok rfl
    have hN' : w'.heap[N]? = some (.cells #[.int .i64 x] 2 (0, 0)) := (hgr.block N (lt_of_block HN.out) (fun e => hne (by injection e))).trans HN.out
    have hcell := cell_of_one hN'
    have hfree := free_of_one hN'
    simp only [i64v]
    have HN' := Lib.hid hN'
    clear hN'
    go_wp2
    go_end0
    exact VarPost.mk_ok rfl (hrd.setOther HN'.out (fun _ h => by cases h) hne) (fun p hp => by rw [List.mem_singleton] at hp; subst hp; exact one_setCell HN'.out) ((Touch.of_grown hgr (by simp)).trans (Touch.set _ _ _ _ (by simp)))

def getCount (most : Int) (bs : List UInt8) : Option (Int × List UInt8) :=
  match getNum bs with
  | none => none
  | some (n, r) => if n < 0 ∨ most < n then none else some (n, r)

set_option maxHeartbeats 800000 in
theorem count_any (R : Nat) (most : Int) (bs : List UInt8) (w : World) (hr : Rd w R bs) :
    Calls Try.prog 29 #[.pointer (some ⟨R, 0, none⟩), .int .i64 most] w (ReadPost w R i64v (getCount most bs)) := by
  have hc := num_any R bs w hr
  clear hr
  cases hg : getNum bs with
  | none =>
    have e : getCount most bs = none := by rw [getCount, hg]
    rw [hg] at hc
    rw [e]
    have HC := Lib.hid hc
    clear hc hg e
    go_enter Try.func29, Try.ntmps29
    go_wp2_with fail
    refine HC.out.mono ?_
    intro e w' hp
    obtain ⟨rfl, hgr⟩ := hp.no rfl
    simp only [Wrong]
    go_wp2
    exact ⟨rfl, ReadPost.mk_no hgr rfl⟩
  | some p =>
    obtain ⟨v, rest⟩ := p
    by_cases hv : v < 0 ∨ most < v
    · have e : getCount most bs = none := by rw [getCount, hg]; exact if_pos hv
      rw [hg] at hc
      rw [e]
      have HC := Lib.hid hc
      clear hc hg e
      by_cases h0 : v < 0
      · clear hv
        go_enter Try.func29, Try.ntmps29
        go_wp2_with fail
        refine HC.out.mono ?_
        intro e w' hp
        obtain ⟨rfl, hrd, hgr⟩ := hp.ok rfl
        simp only [i64v]
        go_wp2_with fail
        refine (fail_any R 30 _).mono ?_
        rintro e w'' ⟨rfl, rfl⟩
        simp only [Wrong]
        go_wp2
        exact ⟨rfl, ReadPost.mk_no hgr rfl⟩
      · have h1 : most < v := by omega
        clear hv
        go_enter Try.func29, Try.ntmps29
        go_wp2_with fail
        refine HC.out.mono ?_
        intro e w' hp
        obtain ⟨rfl, hrd, hgr⟩ := hp.ok rfl
        simp only [i64v]
        go_wp2_with fail
        refine (fail_any R 30 _).mono ?_
        rintro e w'' ⟨rfl, rfl⟩
        simp only [Wrong]
        go_wp2
        exact ⟨rfl, ReadPost.mk_no hgr rfl⟩
    · have e : getCount most bs = some (v, rest) := by rw [getCount, hg]; exact if_neg hv
      rw [hg] at hc
      rw [e]
      have HC := Lib.hid hc
      have h0 : ¬ v < 0 := by omega
      have h1 : ¬ most < v := by omega
      clear hc hg e hv
      go_enter Try.func29, Try.ntmps29
      go_wp2_with fail
      refine HC.out.mono ?_
      intro e w' hp
      obtain ⟨rfl, hrd, hgr⟩ := hp.ok rfl
      simp only [i64v]
      go_wp2_with fail
      go_ret
      exact ReadPost.mk_ok hgr rfl hrd

set_option maxHeartbeats 800000 in
theorem fails1_any (R N : Nat) (code : Int) (w : World) (hN : w.heap[N]? = some (.cells #[.int .i64 code] 3 (0, 0))) :
    Calls Try.prog 26 #[.pointer (some ⟨R, 0, none⟩), .pointer (some ⟨N, 0, none⟩)] w fun e w' => e = Wrong (if code = 0 then 30 else code) ∧ w = w' := by
  have hcell := cell_of_one hN
  clear hN
  go_enter Try.func26, Try.ntmps26
  go_wp2_with fail
  refine (fail_any R code w).mono ?_
  rintro e w' ⟨rfl, rfl⟩
  simp only [Wrong]
  go_wp2
  all_goals exact ⟨rfl, rfl, rfl⟩

theorem holds2 {a b : Nat} {x y : Obj} {w : World} (h1 : w.heap[a]? = some x) (h2 : w.heap[b]? = some y) : Holds [(a, x), (b, y)] w := by
  intro p hp
  rcases List.mem_cons.1 hp with rfl | hp
  · exact h1
  · rw [List.mem_singleton] at hp
    subst hp
    exact h2

set_option maxHeartbeats 800000 in
theorem fails2_any (R M N Bo : Nat) (most x k : Int) (bs : List UInt8) (w : World) (hr : Rd w R bs) (hM : w.heap[M]? = some (.cells #[.int .i64 most] 3 (0, 0))) (hN : w.heap[N]? = some (.cells #[.int .i64 x] 3 (0, 0)))
    (hB : w.heap[Bo]? = some (.cells #[.int .i64 k] 3 (0, 0))) (hk : 0 ≤ k ∧ k ≤ 5) (h2 : N ≠ R) (h3 : Bo ≠ R) (h4 : N ≠ Bo) :
    Calls Try.prog 28 #[.pointer (some ⟨R, 0, none⟩), .pointer (some ⟨M, 0, none⟩), .pointer (some ⟨N, 0, none⟩), .pointer (some ⟨Bo, 0, none⟩)] w
      (VarPost w R [R, N, Bo] (getCount most bs) fun v w' => Holds [(N, .cells #[.int .i64 v] 3 (0, 0)), (Bo, .cells #[.int .i64 (k + 1)] 3 (0, 0))] w') := by
  have hc := count_any R most bs w hr
  have HM := Lib.hid hM
  have HN := Lib.hid hN
  have HB := Lib.hid hB
  have hcm := cell_of_one hM
  obtain ⟨hk1, hk2⟩ := hk
  clear hr hM hN hB
  cases hg : getCount most bs with
  | none =>
    rw [hg] at hc
    have HC := Lib.hid hc
    clear hc hg
    go_enter Try.func28, Try.ntmps28
    go_wp2_with fail
    refine HC.out.mono ?_
    intro e w' hp
    obtain ⟨rfl, hgr⟩ := hp.no rfl
    simp only [Wrong]
    go_wp2
    exact ⟨rfl, VarPost.mk_no rfl (Touch.of_grown hgr (by simp))⟩
  | some p =>
    obtain ⟨v, rest⟩ := p
    rw [hg] at hc
    have HC := Lib.hid hc
    clear hc hg
    go_enter Try.func28, Try.ntmps28
    go_wp2_with fail
    refine HC.out.mono ?_
    intro e w' hp
    obtain ⟨rfl, hrd, hgr⟩ := hp.ok rfl
    have hN' := (hgr.block N (lt_of_block HN.out) (fun e => h2 (by injection e))).trans HN.out
    have hB' := (hgr.block Bo (lt_of_block HB.out) (fun e => h3 (by injection e))).trans HB.out
    have hN2 := one_setCell (u := .int .i64 v) hN'
    have hB2 := (Below.heap_setCell w' ⟨N, 0, none⟩ (.int .i64 v) Bo (fun e => h4 e.symm)).trans hB'
    have hB3 := one_setCell (u := .int .i64 (k + 1)) hB2
    have hN3 := (Below.heap_setCell (w'.setCell ⟨N, 0, none⟩ (.int .i64 v)) ⟨Bo, 0, none⟩ (.int .i64 (k + 1)) N h4).trans hN2
    have hrd2 := (hrd.setOther (u := .int .i64 v) hN' (fun _ h => by cases h) h2).setOther (u := .int .i64 (k + 1)) hB2 (fun _ h => by cases h) h3
    have c1 := cell_of_one hN'
    have f1 := free_of_one hN'
    have c2 := cell_of_one hB2
    have f2 := free_of_one hB2
    have F3 := Lib.hid (holds2 hN3 hB3)
    have HRD := Lib.hid hrd2
    clear hN' hB' hN2 hB2 hB3 hN3 hrd2 hrd
    simp only [i64v]
    go_wp2
    go_end0
    exact VarPost.mk_ok rfl HRD.out F3.out (((Touch.of_grown hgr (by simp)).trans (Touch.set _ _ _ _ (by simp))).trans (Touch.set _ _ _ _ (by simp)))

set_option maxHeartbeats 800000 in
theorem fails3_any (R N Bo : Nat) (x k : Int) (bs : List UInt8) (w : World) (hr : Rd w R bs) (hN : w.heap[N]? = some (.cells #[.int .i64 x] 2 (0, 0)))
    (hB : w.heap[Bo]? = some (.cells #[.int .i64 k] 3 (0, 0))) (hk : 0 ≤ k ∧ k ≤ 5) (h2 : N ≠ R) (h3 : Bo ≠ R) (h4 : N ≠ Bo) :
    Calls Try.prog 30 #[.pointer (some ⟨R, 0, none⟩), .pointer (some ⟨N, 0, none⟩), .pointer (some ⟨Bo, 0, none⟩)] w
      (VarPost w R [R, N, Bo] (getNum bs) fun v w' => Holds [(N, .cells #[.int .i64 v] 2 (0, 0)), (Bo, .cells #[.int .i64 (k + 1)] 3 (0, 0))] w') := by
  have hc := num_any R bs w hr
  have HN := Lib.hid hN
  have HB := Lib.hid hB
  obtain ⟨hk1, hk2⟩ := hk
  clear hr hN hB
  cases hg : getNum bs with
  | none =>
    rw [hg] at hc
    have HC := Lib.hid hc
    clear hc hg
    go_enter Try.func30, Try.ntmps30
    go_wp2_with fail
    refine HC.out.mono ?_
    intro e w' hp
    obtain ⟨rfl, hgr⟩ := hp.no rfl
    simp only [Wrong]
    go_wp2
    exact ⟨rfl, VarPost.mk_no rfl (Touch.of_grown hgr (by simp))⟩
  | some p =>
    obtain ⟨v, rest⟩ := p
    rw [hg] at hc
    have HC := Lib.hid hc
    clear hc hg
    go_enter Try.func30, Try.ntmps30
    go_wp2_with fail
    refine HC.out.mono ?_
    intro e w' hp
    obtain ⟨rfl, hrd, hgr⟩ := hp.ok rfl
    have hN' := (hgr.block N (lt_of_block HN.out) (fun e => h2 (by injection e))).trans HN.out
    have hB' := (hgr.block Bo (lt_of_block HB.out) (fun e => h3 (by injection e))).trans HB.out
    have hN2 := one_setCell (u := .int .i64 v) hN'
    have hB2 := (Below.heap_setCell w' ⟨N, 0, none⟩ (.int .i64 v) Bo (fun e => h4 e.symm)).trans hB'
    have hB3 := one_setCell (u := .int .i64 (k + 1)) hB2
    have hN3 := (Below.heap_setCell (w'.setCell ⟨N, 0, none⟩ (.int .i64 v)) ⟨Bo, 0, none⟩ (.int .i64 (k + 1)) N h4).trans hN2
    have hrd2 := (hrd.setOther (u := .int .i64 v) hN' (fun _ h => by cases h) h2).setOther (u := .int .i64 (k + 1)) hB2 (fun _ h => by cases h) h3
    have c1 := cell_of_one hN'
    have f1 := free_of_one hN'
    have c2 := cell_of_one hB2
    have f2 := free_of_one hB2
    have F3 := Lib.hid (holds2 hN3 hB3)
    have HRD := Lib.hid hrd2
    clear hN' hB' hN2 hB2 hB3 hN3 hrd2 hrd
    simp only [i64v]
    go_wp2
    go_end0
    exact VarPost.mk_ok rfl HRD.out F3.out (((Touch.of_grown hgr (by simp)).trans (Touch.set _ _ _ _ (by simp))).trans (Touch.set _ _ _ _ (by simp)))

theorem getNum_4 : getNum [4] = some (2, []) := by decide

theorem enters_reading1 (args : Array Value) (w : World) : (callFunc 52 args).run Try.prog w = .ok (.enter 52 args) w := enters Try.func52 (by kernel_rfl) rfl args w
theorem enters_fails1 (args : Array Value) (w : World) : (callFunc 26 args).run Try.prog w = .ok (.enter 26 args) w := enters Try.func26 (by kernel_rfl) rfl args w
theorem enters_fails2 (args : Array Value) (w : World) : (callFunc 28 args).run Try.prog w = .ok (.enter 28 args) w := enters Try.func28 (by kernel_rfl) rfl args w
theorem enters_fails3 (args : Array Value) (w : World) : (callFunc 30 args).run Try.prog w = .ok (.enter 30 args) w := enters Try.func30 (by kernel_rfl) rfl args w

theorem hmf (fn : Fn) (first cap : Array Value) (w : World) : (Instr.makeFunc fn first cap).run Try.prog w = .ok (.func fn first cap) w := rfl

/-- Read with the law's first function. -/
theorem reading_read (w : World) (N : Nat) (a : Option Addr) (hN : w.heap[N]? = some (.cells #[.int .i64 0] 2 (0, 0))) (hr : Row8 w a 1 [4]) (ha : a ≠ none) :
    Calls Try.prog 25 #[.slice a 1 1, .func (.func 52) #[] #[.pointer (some ⟨N, 0, none⟩)]] w fun e w' => e = .returned (.int .i64 0) ∧ w'.heap[N]? = some (.cells #[.int .i64 2] 2 (0, 0)) ∧ Touch [N] w w' := by
  have hlt := lt_of_block hN
  have h := read_var 52 #[.pointer (some ⟨N, 0, none⟩)] a 1 1 w [N] (getNum [4]) (fun v => [(N, .cells #[.int .i64 v] 2 (0, 0))]) enters_reading1
    (fun k hk => by rw [List.mem_singleton] at hk; rw [hk]; exact hlt) (fun v p hp => by rw [List.mem_singleton] at hp; rw [hp]; exact hlt)
    (reading1_any (w.heap.size + 1) N 0 [4] _ (Rd.start hr (Nat.le_refl _) (by decide) (fun h => absurd h ha)) ((readStart_old hlt).trans hN) (by omega))
  refine h.mono fun e w' hp => ?_
  obtain ⟨he, hh⟩ := hp.1 2 [] getNum_4
  exact ⟨he, hh _ (List.mem_singleton.2 rfl), hp.2.2⟩

set_option maxHeartbeats 1600000 in
theorem reading_any (w : World) : Calls Try.prog 24 #[] w fun e w' => e = .returned (.bool true) ∧ Below w.heap.size w w' := by
  have hm := hmf
  go_enter Try.func24, Try.ntmps24
  go_wp2_with fail
  have hN : ((w.alloc (.cells #[.int .i64 0] 2)).alloc (.cells #[.int .u8 4] 5)).heap[w.heap.size]? = some (.cells #[.int .i64 0] 2 (0, 0)) :=
    (heap_alloc_old _ _ (by rw [World.size_alloc]; omega)).trans (heap_alloc_new w _)
  have hrow : Row8 ((w.alloc (.cells #[.int .i64 0] 2)).alloc (.cells #[.int .u8 4] 5)) (some ⟨w.heap.size + 1, 0, none⟩) 1 [4] := by
    have := Row8.new (w.alloc (.cells #[.int .i64 0] 2)) #[.int .u8 4] 5 (0, 0) [4] 1 rfl rfl
    rw [World.size_alloc] at this
    exact this
  refine (reading_read _ w.heap.size _ hN hrow (fun h => by cases h)).mono ?_
  rintro e w1 ⟨rfl, hb, ht⟩
  have hcell := cell_of_one hb
  clear hb hN hrow
  go_wp2
  go_ret
  exact ⟨rfl, ht.below (((Below.refl _ _).alloc (Nat.le_refl _) _).alloc (by rw [World.size_alloc]; omega) _) (by rw [World.size_alloc, World.size_alloc]; omega) (fun k hk => by rw [List.mem_singleton] at hk; omega)⟩

theorem fails1_read (w : World) (N : Nat) (code : Int) (a : Option Addr) (n c : Nat) (hN : w.heap[N]? = some (.cells #[.int .i64 code] 3 (0, 0))) :
    Calls Try.prog 25 #[.slice a n c, .func (.func 26) #[] #[.pointer (some ⟨N, 0, none⟩)]] w fun e w' => e = .returned (.int .i64 (if code = 0 then 30 else code)) ∧ Below w.heap.size w w' := by
  have hlt := lt_of_block hN
  have h := read_any 26 #[.pointer (some ⟨N, 0, none⟩)] a n c w (fun _ _ => False) (fun k w1 => k = (if code = 0 then 30 else code) ∧ readStart w a n c = w1) enters_fails1
    ((fails1_any (w.heap.size + 1) N code _ ((readStart_old hlt).trans hN)).mono fun e w' ⟨he, hw⟩ => by
      subst hw
      refine ⟨?_, .inr ⟨_, he, rfl, rfl⟩⟩
      exact (heap_alloc_old _ _ (by rw [World.size_alloc]; omega)).trans (heap_alloc_new w _))
  refine h.mono fun e w' hp => ?_
  rcases hp with ⟨_, _, hf, _⟩ | ⟨k, w1, ⟨hk, rfl⟩, he, hg⟩
  · exact hf.elim
  · refine ⟨by rw [he, hk], (readStart_below w a n c).grown hg (by rw [readStart_size]; omega) (fun k hk => by injection hk; omega)⟩

theorem fails2_read (w : World) (M N Bo : Nat) (most x k : Int) (a : Option Addr) (n c : Nat) (bs : List UInt8) (hr : Row8 w a n bs) (hnc : n ≤ c) (hcm : c ≤ maxLen) (hnil : a = none → c = 0)
    (hM : w.heap[M]? = some (.cells #[.int .i64 most] 3 (0, 0))) (hN : w.heap[N]? = some (.cells #[.int .i64 x] 3 (0, 0))) (hB : w.heap[Bo]? = some (.cells #[.int .i64 k] 3 (0, 0))) (hk : 0 ≤ k ∧ k ≤ 5) (h4 : N ≠ Bo) :
    Calls Try.prog 25 #[.slice a n c, .func (.func 28) #[] #[.pointer (some ⟨M, 0, none⟩), .pointer (some ⟨N, 0, none⟩), .pointer (some ⟨Bo, 0, none⟩)]] w
      (ReadVar w [N, Bo] (getCount most bs) fun v => [(N, .cells #[.int .i64 v] 3 (0, 0)), (Bo, .cells #[.int .i64 (k + 1)] 3 (0, 0))]) := by
  have l1 := lt_of_block hM
  have l2 := lt_of_block hN
  have l3 := lt_of_block hB
  have hin : ∀ k ∈ [N, Bo], k < w.heap.size := fun k hk => by
    rcases List.mem_cons.1 hk with rfl | hk
    · exact l2
    · rw [List.mem_singleton] at hk; rw [hk]; exact l3
  exact read_var 28 #[.pointer (some ⟨M, 0, none⟩), .pointer (some ⟨N, 0, none⟩), .pointer (some ⟨Bo, 0, none⟩)] a n c w [N, Bo] (getCount most bs) _ enters_fails2 hin
    (fun v p hp => by
      rcases List.mem_cons.1 hp with rfl | hp
      · exact l2
      · rw [List.mem_singleton] at hp; rw [hp]; exact l3)
    (fails2_any (w.heap.size + 1) M N Bo most x k bs _ (Rd.start hr hnc hcm hnil) ((readStart_old l1).trans hM) ((readStart_old l2).trans hN) ((readStart_old l3).trans hB) hk (by omega) (by omega) h4)

theorem fails3_read (w : World) (N Bo : Nat) (x k : Int) (a : Option Addr) (n c : Nat) (bs : List UInt8) (hr : Row8 w a n bs) (hnc : n ≤ c) (hcm : c ≤ maxLen) (hnil : a = none → c = 0)
    (hN : w.heap[N]? = some (.cells #[.int .i64 x] 2 (0, 0))) (hB : w.heap[Bo]? = some (.cells #[.int .i64 k] 3 (0, 0))) (hk : 0 ≤ k ∧ k ≤ 5) (h4 : N ≠ Bo) :
    Calls Try.prog 25 #[.slice a n c, .func (.func 30) #[] #[.pointer (some ⟨N, 0, none⟩), .pointer (some ⟨Bo, 0, none⟩)]] w
      (ReadVar w [N, Bo] (getNum bs) fun v => [(N, .cells #[.int .i64 v] 2 (0, 0)), (Bo, .cells #[.int .i64 (k + 1)] 3 (0, 0))]) := by
  have l2 := lt_of_block hN
  have l3 := lt_of_block hB
  have hin : ∀ k ∈ [N, Bo], k < w.heap.size := fun k hk => by
    rcases List.mem_cons.1 hk with rfl | hk
    · exact l2
    · rw [List.mem_singleton] at hk; rw [hk]; exact l3
  exact read_var 30 #[.pointer (some ⟨N, 0, none⟩), .pointer (some ⟨Bo, 0, none⟩)] a n c w [N, Bo] (getNum bs) _ enters_fails3 hin
    (fun v p hp => by
      rcases List.mem_cons.1 hp with rfl | hp
      · exact l2
      · rw [List.mem_singleton] at hp; rw [hp]; exact l3)
    (fails3_any (w.heap.size + 1) N Bo x k bs _ (Rd.start hr hnc hcm hnil) ((readStart_old l2).trans hN) ((readStart_old l3).trans hB) hk (by omega) (by omega) h4)

/-- The world in which the law reads twice: three variables more. -/
def three (w : World) : World := ((w.alloc (.cells #[.int .i64 0] 3)).alloc (.cells #[.int .i64 0] 2)).alloc (.cells #[.int .i64 0] 3)

theorem three_n (w : World) : (three w).heap[w.heap.size]? = some (.cells #[.int .i64 0] 3 (0, 0)) :=
  (heap_alloc_old _ _ (by rw [World.size_alloc, World.size_alloc]; omega)).trans ((heap_alloc_old _ _ (by rw [World.size_alloc]; omega)).trans (heap_alloc_new w _))
theorem three_m (w : World) : (three w).heap[w.heap.size + 1]? = some (.cells #[.int .i64 0] 2 (0, 0)) := by
  have h := heap_alloc_new (w.alloc (.cells #[.int .i64 0] 3)) (.cells #[.int .i64 0] 2)
  rw [World.size_alloc] at h
  exact (heap_alloc_old _ _ (by rw [World.size_alloc, World.size_alloc]; omega)).trans h
theorem three_b (w : World) : (three w).heap[w.heap.size + 1 + 1]? = some (.cells #[.int .i64 0] 3 (0, 0)) := by
  have h := heap_alloc_new ((w.alloc (.cells #[.int .i64 0] 3)).alloc (.cells #[.int .i64 0] 2)) (.cells #[.int .i64 0] 3)
  rw [World.size_alloc, World.size_alloc] at h
  exact h
theorem three_size (w : World) : (three w).heap.size = w.heap.size + 3 := by unfold three; rw [World.size_alloc, World.size_alloc, World.size_alloc]
theorem three_below (w : World) : Below w.heap.size w (three w) := (((Below.refl _ _).alloc (Nat.le_refl _) _).alloc (by rw [World.size_alloc]; omega) _).alloc (by rw [World.size_alloc, World.size_alloc]; omega) _
theorem three_old (w : World) {k : Nat} (h : k < w.heap.size) : (three w).heap[k]? = w.heap[k]? := (three_below w).block k h

set_option maxRecDepth 100000 in
set_option maxHeartbeats 6400000 in
theorem packFails_walk (a : Option Addr) (len cap : Nat) (bs : List UInt8) (code most : Int) (w : World) (hr : Row8 w a len bs) (hlc : len ≤ cap) (hcm : cap ≤ maxLen) (hn : a = none → cap = 0)
    (_wc : (Lit.int .i64 code).wf = true) (_wm : (Lit.int .i64 most).wf = true) :
    Calls Try.prog 8 #[.slice a len cap, .int .i64 code, .int .i64 most] w fun e w' => e = .returned (.bool true) ∧ Below w.heap.size w w' := by
  have hm := hmf
  have HR := Lib.hid hr
  clear hr
  by_cases hc0 : code = 0
  all_goals
    have HC0 := Lib.hid hc0
    clear hc0
    go_enter Try.func8, Try.ntmps8
    go_wp2_with fail
    refine (reading_any _).mono ?_
    rintro e w1 ⟨rfl, hb1⟩
    have hz1 := hb1.size
    rw [World.size_alloc, World.size_alloc] at hz1
    have hA : w1.heap[w.heap.size]? = some (.cells #[.int .i64 code] 3 (0, 0)) := by
      rw [hb1.block _ (by rw [World.size_alloc, World.size_alloc]; omega)]
      exact (heap_alloc_old _ _ (by rw [World.size_alloc]; omega)).trans (heap_alloc_new w _)
    have hM : w1.heap[w.heap.size + 1]? = some (.cells #[.int .i64 most] 3 (0, 0)) := by
      rw [hb1.block _ (by rw [World.size_alloc, World.size_alloc]; omega)]
      have := heap_alloc_new (w.alloc (.cells #[.int .i64 code] 3)) (.cells #[.int .i64 most] 3)
      rw [World.size_alloc] at this
      exact this
    have hb1' : Below w.heap.size w w1 := (((Below.refl _ _).alloc (Nat.le_refl _) _).alloc (by rw [World.size_alloc]; omega) _).trans (hb1.mono (by rw [World.size_alloc, World.size_alloc]; omega))
    clear hb1
    go_wp2_with fail
    refine (fails1_read w1 w.heap.size code a len cap hA).mono ?_
    rintro e w2 ⟨rfl, hb2⟩
    have hz2 := hb2.size
    have hA2 := (hb2.block w.heap.size (by omega)).trans hA
    have hM2 := (hb2.block (w.heap.size + 1) (by omega)).trans hM
    have hb2' : Below w.heap.size w w2 := hb1'.trans (hb2.mono (by omega))
    have hcell := cell_of_one hA2
    clear hA hM hb1' hb2
    have HA2 := Lib.hid hA2
    have HM2 := Lib.hid hM2
    clear hA2 hM2
    first
      | (rw [if_pos HC0.out]; have hc0 := HC0.out; subst hc0)
      | (rw [if_neg HC0.out]; have hc1 : (code == 0) = false := (by simpa using HC0.out); have hc2 : (code != 0) = true := (by simpa using HC0.out))
    go_wp2_with fail
    have T1 := three_n w2
    have T2 := three_m w2
    have T3 := three_b w2
    have T4 := (three_old w2 (lt_of_block HM2.out)).trans HM2.out
    have hrow := (HR.out.below hb2').below (three_below w2)
    have hbt : Below w.heap.size w (three w2) := hb2'.trans ((three_below w2).mono (by omega))
    have hst := three_size w2
    refine (fails2_read (three w2) (w.heap.size + 1) w2.heap.size (w2.heap.size + 1 + 1) most 0 0 a len cap bs hrow hlc hcm hn T4 T1 T3 (by omega) (by omega)).mono ?_
    intro e w3 hp
    obtain ⟨P1, P2, P3⟩ := hp
    have hz3 := P3.size
    have hbw3 : Below w.heap.size w w3 := P3.below hbt (by omega) (fun k hk => by simp at hk <;> omega)
    have hrow3 : Row8 w3 a len bs := HR.out.below hbw3
    have hM3 : w3.heap[w2.heap.size + 1]? = some (.cells #[.int .i64 0] 2 (0, 0)) := (P3.block _ (by omega) (by simp)).trans T2
    have hS3 : w3.heap[w.heap.size + 1]? = some (.cells #[.int .i64 most] 3 (0, 0)) := (P3.block _ (by omega) (by simp <;> omega)).trans T4
    clear T1 T2 T4 hrow hbt
    cases hg : getNum bs with
    | none =>
      have e2 : getCount most bs = none := by rw [getCount, hg]
      obtain ⟨rfl, ht⟩ := P2 e2
      have hB3 : w3.heap[w2.heap.size + 1 + 1]? = some (.cells #[.int .i64 0] 3 (0, 0)) := (ht.block _ (by omega) (by simp)).trans T3
      have hc3 := fails3_read w3 (w2.heap.size + 1) (w2.heap.size + 1 + 1) 0 0 a len cap bs hrow3 hlc hcm hn hM3 hB3 (by omega) (by omega)
      have HC3 := Lib.hid hc3
      have HG := Lib.hid hg
      clear hc3 hg e2 P1 P2 P3 ht hB3 hM3 hS3 T3
      go_wp2_with fail
      refine HC3.out.mono ?_
      intro e w4 hp
      obtain ⟨Q1, Q2, Q3⟩ := hp
      obtain ⟨rfl, ht⟩ := Q2 HG.out
      go_wp2
      go_ret
      exact ⟨rfl, ht.below hbw3 (by omega) (fun k hk => by cases hk)⟩
    | some pr =>
      obtain ⟨v, rest⟩ := pr
      by_cases hv : v < 0 ∨ most < v
      · have e2 : getCount most bs = none := by rw [getCount, hg]; exact if_pos hv
        obtain ⟨rfl, ht⟩ := P2 e2
        have hB3 : w3.heap[w2.heap.size + 1 + 1]? = some (.cells #[.int .i64 0] 3 (0, 0)) := (ht.block _ (by omega) (by simp)).trans T3
        have hc3 := fails3_read w3 (w2.heap.size + 1) (w2.heap.size + 1 + 1) 0 0 a len cap bs hrow3 hlc hcm hn hM3 hB3 (by omega) (by omega)
        have HC3 := Lib.hid hc3
        have HG := Lib.hid hg
        have HS3 := Lib.hid hS3
        clear hc3 hg e2 P1 P2 P3 ht hB3 hM3 hS3 T3
        go_wp2_with fail
        refine HC3.out.mono ?_
        intro e w4 hp
        obtain ⟨Q1, Q2, Q3⟩ := hp
        obtain ⟨rfl, hh⟩ := Q1 v rest HG.out
        have hm4 := cell_of_one (hh (_, _) (List.mem_cons_self ..))
        have hs4 := cell_of_one ((Q3.block (w.heap.size + 1) (lt_of_block HS3.out) (by simp <;> omega)).trans HS3.out)
        have hbw4 : Below w.heap.size w w4 := Q3.below hbw3 (by omega) (fun k hk => by simp at hk <;> omega)
        clear Q1 Q2 Q3 hh
        by_cases h0 : v < 0
        · clear hv
          by_cases hrest : rest = []
          all_goals
            first | rw [if_pos hrest] | rw [if_neg hrest]
            clear hrest
            go_wp2
            go_ret
            exact ⟨rfl, hbw4⟩
        · have h1 : most < v := by omega
          clear hv
          by_cases hrest : rest = []
          all_goals
            first | rw [if_pos hrest] | rw [if_neg hrest]
            clear hrest
            go_wp2
            go_ret
            exact ⟨rfl, hbw4⟩
      · have e2 : getCount most bs = some (v, rest) := by rw [getCount, hg]; exact if_neg hv
        obtain ⟨rfl, hh⟩ := P1 v rest e2
        have hN3 := hh (w2.heap.size, .cells #[.int .i64 v] 3 (0, 0)) (by simp)
        have hB3 : w3.heap[w2.heap.size + 1 + 1]? = some (.cells #[.int .i64 1] 3 (0, 0)) := hh (_, _) (by simp)
        have hc3 := fails3_read w3 (w2.heap.size + 1) (w2.heap.size + 1 + 1) 0 1 a len cap bs hrow3 hlc hcm hn hM3 hB3 (by omega) (by omega)
        have h0 : ¬ v < 0 := by omega
        have h1 : ¬ most < v := by omega
        have h0' : 0 ≤ v := by omega
        have h1' : v ≤ most := by omega
        have HC3 := Lib.hid hc3
        have HG := Lib.hid hg
        have HS3 := Lib.hid hS3
        have HN3 := Lib.hid hN3
        clear hc3 hg e2 P1 P2 P3 hh hB3 hM3 hS3 T3 hN3 hv
        by_cases hrest : rest = []
        all_goals
          have HRS := Lib.hid hrest
          clear hrest
          first | rw [if_pos HRS.out] | rw [if_neg HRS.out]
          go_wp2_with fail
          refine HC3.out.mono ?_
          intro e w4 hp
          obtain ⟨Q1, Q2, Q3⟩ := hp
          obtain ⟨rfl, hh⟩ := Q1 v rest HG.out
          first | rw [if_pos HRS.out] | rw [if_neg HRS.out]
          have hm4 := cell_of_one (hh (w2.heap.size + 1, .cells #[.int .i64 v] 2 (0, 0)) (by simp))
          have hb4 := cell_of_one (hh (w2.heap.size + 1 + 1, .cells #[.int .i64 2] 3 (0, 0)) (by simp))
          have hs4 := cell_of_one ((Q3.block (w.heap.size + 1) (lt_of_block HS3.out) (by simp <;> omega)).trans HS3.out)
          have hn4 := cell_of_one ((Q3.block w2.heap.size (lt_of_block HN3.out) (by simp <;> omega)).trans HN3.out)
          have hbw4 : Below w.heap.size w w4 := Q3.below hbw3 (by omega) (fun k hk => by simp at hk <;> omega)
          clear Q1 Q2 Q3 hh
          go_wp2
          go_ret
          exact ⟨rfl, hbw4⟩

end Go.Proofs.Ytdpajcamgipgkaa
