/- A net's small functions, and Send. -/
import Derived.Test.YtnjbhjgihcgefaaKit
import Derived.Laws.NewBlocks
import Derived.Deep.RegionHeld3
import Derived.Deep.RegionLaw
import Derived.Deep.AppendLies
namespace Go.Proofs.Ytnjbhjgihcgefaa
open Go.RowKit

/-- a letter -/
structure L3 where
  f : Int
  t : Int
  s : Sl
def L3.cells (l : L3) : List Value := [.int .i64 l.f, .int .i64 l.t, l.s.val]
def L3.val (l : L3) : Value := .agg #[.int .i64 l.f, .int .i64 l.t, .slice l.s.a l.s.len l.s.cap]

/-- a net in block N: its letters in memory above it -/
structure NetAt (w : World) (N : Nat) (most : Int) (ls : List L3) (ao : Option Addr) (n cap : Nat) : Prop where
  cell : w.heap[N]? = some (.cells #[.int .i64 most, .slice ao n cap] 57 (0, 0))
  len : ls.length = n
  row : w.ownsRow (N + 1) 30 3 (.slice ao n cap) n (ls.flatMap L3.cells)
  own : ∀ l ∈ ls, Own8 w (N + 1) l.s.a l.s.len l.s.cap l.s.bs
theorem NetAt.keep {w w' : World} {N : Nat} {most : Int} {ls : List L3} {ao : Option Addr} {n cap : Nat} (h : NetAt w N most ls ao n cap) (hk : ∀ g, N ≤ g → g < w.heap.size → w'.heap[g]? = w.heap[g]?) : NetAt w' N most ls ao n cap :=
  ⟨(hk N (Nat.le_refl _) (lt_of_block h.cell)).trans h.cell, h.len, own_keep h.row fun g hg hl => hk g (by have := (h.row.lt g hg).1; omega) hl, fun v hv => own_keep (h.own v hv) fun g hg hl => hk g (by have := ((h.own v hv).lt g hg).1; omega) hl⟩
theorem NetAt.below {w w' : World} {N : Nat} {most : Int} {ls : List L3} {ao : Option Addr} {n cap : Nat} (h : NetAt w N most ls ao n cap) (hb : Below w.heap.size w w') : NetAt w' N most ls ao n cap := h.keep fun g _ hl => hb.block g hl

/-- only the net's block and its row may have turned; its row is the old one, or a new one -/
structure NStep (w w' : World) (N : Nat) (ao ao' : Option Addr) : Prop where
  os : w'.os = w.os
  tape : w'.tape = w.tape
  output : w'.output = w.output
  size : w.heap.size ≤ w'.heap.size
  block : ∀ k, k < w.heap.size → k ≠ N → Value.ownBlock (.slice ao 0 0) ≠ some k → w'.heap[k]? = w.heap[k]?
  row : ∀ g, Value.ownBlock (.slice ao' 0 0) = some g → Value.ownBlock (.slice ao 0 0) = some g ∨ w.heap.size ≤ g
theorem NStep.of_below {w w' : World} {N : Nat} {ao : Option Addr} (h : Below w.heap.size w w') : NStep w w' N ao ao := ⟨h.os, h.tape, h.output, h.size, fun k hk _ _ => h.block k hk, fun _ h => .inl h⟩
theorem NStep.trans {a b c : World} {N : Nat} {x y z : Option Addr} (h : NStep a b N x y) (k : NStep b c N y z) : NStep a c N x z :=
  ⟨k.os.trans h.os, k.tape.trans h.tape, k.output.trans h.output, Nat.le_trans h.size k.size,
    fun i hi hn hx => (k.block i (Nat.lt_of_lt_of_le hi h.size) hn (fun e => by
      rcases h.row i e with h1 | h1
      · exact hx h1
      · omega)).trans (h.block i hi hn hx),
    fun g hg => by
      rcases k.row g hg with h1 | h1
      · exact h.row g h1
      · exact .inr (Nat.le_trans h.size h1)⟩

theorem own_addr (a : Option Addr) (n c n' c' : Nat) : Value.ownBlock (.slice a n c) = Value.ownBlock (.slice a n' c') := by cases a <;> rfl

theorem three_cells {w : World} {B : Nat} {T : TypeId} {c0 c1 c2 : Value} (h : w.heap[B]? = some (.cells #[c0, c1, c2] T (0, 0))) :
    w.cell? ⟨B, 0, none⟩ = some c0 ∧ w.cell? ⟨B, 1, none⟩ = some c1 ∧ w.cell? ⟨B, 2, none⟩ = some c2 ∧ w.frozen? ⟨B, 0, none⟩ = false ∧ w.frozen? ⟨B, 1, none⟩ = false ∧ w.frozen? ⟨B, 2, none⟩ = false := by
  refine ⟨?_, ?_, ?_, ?_, ?_, ?_⟩ <;> simp [World.cell?, World.frozen?, h]
theorem two_cells {w : World} {B : Nat} {T : TypeId} {c0 c1 : Value} (h : w.heap[B]? = some (.cells #[c0, c1] T (0, 0))) :
    w.cell? ⟨B, 0, none⟩ = some c0 ∧ w.cell? ⟨B, 1, none⟩ = some c1 ∧ w.frozen? ⟨B, 0, none⟩ = false ∧ w.frozen? ⟨B, 1, none⟩ = false := by
  refine ⟨?_, ?_, ?_, ?_⟩ <;> simp [World.cell?, World.frozen?, h]
theorem load_three {w : World} {B : Nat} {c0 c1 c2 : Value} (h : w.heap[B]? = some (.cells #[c0, c1, c2] 30 (0, 0))) : (loadVar 30 ⟨B, 0, none⟩).run Try.prog w = .ok (.agg #[c0, c1, c2]) w := by
  refine run_loadVar_mid w B 0 _ [c0, c1, c2] _ (fun j v hv => ?_) Try.underlying30 rfl (by kernel_rfl)
  simp only [World.cell?, h, Nat.zero_add]
  rw [← hv]
  simp

theorem touch_four (w : World) (A i : Nat) (u v0 v1 v2 : Value) : Touch [A, A + 1] w ((((w.setCell ⟨A, i, none⟩ u).setCell ⟨A + 1, 0, none⟩ v0).setCell ⟨A + 1, 1, none⟩ v1).setCell ⟨A + 1, 2, none⟩ v2) :=
  (((Touch.set w _ _ _ (by simp)).trans (Touch.set _ _ _ _ (by simp))).trans (Touch.set _ _ _ _ (by simp))).trans (Touch.set _ _ _ _ (by simp))

/-- A letter with bytes of its own. -/
def RetLetter (w : World) (f t : Int) (len : Nat) (bs : List UInt8) (e : Ending) (w' : World) : Prop :=
  ∃ a c, e = .returned (.agg #[.int .i64 f, .int .i64 t, .slice a len c]) ∧ Own8 w' w.heap.size a len c bs ∧ Below w.heap.size w w'

set_option maxRecDepth 100000 in
set_option maxHeartbeats 1600000 in
theorem lclone_any (f t : Int) (a : Option Addr) (len cap : Nat) (bs : List UInt8) (w : World) (hr : Row8 w a len bs) (hn : a = none → len = 0 ∧ cap = 0) (hl : len ≤ 140737488355328) :
    Calls Try.prog 21 #[.agg #[.int .i64 f, .int .i64 t, .slice a len cap]] w (RetLetter w f t len bs) := by
  have HR := Lib.hid hr
  clear hr
  go_enter Try.func21, Try.ntmps21
  go_wp2_with fail
  refine (clone_any a len cap bs _ ((HR.out.alloc _).alloc _) hn hl).mono ?_
  rintro e w2 ⟨aq, cq, rfl, hown, hb2⟩
  have hsz : ((w.alloc (.cells #[.int .i64 f, .int .i64 t, .slice a len cap] 30)).alloc (.cells #[.int .i64 0, .int .i64 0, .slice none 0 0] 30)).heap.size = w.heap.size + 2 := by rw [World.size_alloc, World.size_alloc]
  rw [hsz] at hown hb2
  have hA := (hb2.block w.heap.size (by omega)).trans ((heap_alloc_old _ _ (by rw [World.size_alloc]; omega)).trans (heap_alloc_new w (.cells #[.int .i64 f, .int .i64 t, .slice a len cap] 30)))
  have hB0 := heap_alloc_new (w.alloc (.cells #[.int .i64 f, .int .i64 t, .slice a len cap] 30)) (.cells #[.int .i64 0, .int .i64 0, .slice none 0 0] 30)
  rw [World.size_alloc] at hB0
  have hB := (hb2.block (w.heap.size + 1) (by omega)).trans hB0
  have hbw : Below w.heap.size w w2 := (((Below.refl _ _).alloc (Nat.le_refl _) _).alloc (by rw [World.size_alloc]; omega) _).trans (hb2.mono (by omega))
  have hz2 := hb2.size
  rw [hsz] at hz2
  obtain ⟨a0, a1, a2, f0, f1, f2⟩ := three_cells hA
  obtain ⟨b0, b1, b2, g0, g1, g2⟩ := three_cells hB
  have HA := Lib.hid hA
  have HB := Lib.hid hB
  have HO := Lib.hid hown
  have HBW := Lib.hid hbw
  clear hA hB hown hb2 hB0 hbw hsz
  go_wp2_with fail
  have hF := set_block (i := 2) (set_block (i := 1) (set_block (i := 0) ((Below.heap_setCell w2 ⟨w.heap.size, 2, none⟩ (.slice aq len cq) (w.heap.size + 1) (by simp)).trans HB.out) (.int .i64 f)) (.int .i64 t)) (.slice aq len cq)
  refine bodyPost_ret (results_cell Try.results21 rfl (load_three (c0 := .int .i64 f) (c1 := .int .i64 t) (c2 := .slice aq len cq) hF)) rfl ⟨aq, cq, rfl, own_more (own_keep HO.out fun g hg hl => (touch_four _ _ _ _ _ _ _).block g hl (fun hi => ?_)) (by omega), (touch_four _ _ _ _ _ _ _).below HBW.out (by omega) (fun k hk => by simp at hk; omega)⟩
  have := (HO.out.lt g hg).1
  simp at hi
  omega

def mostOf (m : Int) : Int := if m < 0 then 0 else if 1000 < m then 1000 else m
theorem net_new (w : World) (m m' : Int) (h : m = m') : NetAt (w.alloc (.cells #[.int .i64 m, .slice none 0 0] 57)) w.heap.size m' [] none 0 0 := by
  subst h
  exact ⟨heap_alloc_new w _, rfl, World.ownsRow_nil _ _ _ _, fun l h => by cases h⟩

theorem new_any (most : Int) (w : World) :
    Calls Try.prog 6 #[.int .i64 most] w fun e w' => e = .returned (.pointer (some ⟨w.heap.size, 0, none⟩)) ∧ NetAt w' w.heap.size (mostOf most) [] none 0 0 ∧ Below w.heap.size w w' := by
  go_enter Try.func6, Try.ntmps6
  go_wp2_with fail
  all_goals
    go_ret
    exact ⟨rfl, net_new w _ _ (by unfold mostOf; (repeat' split) <;> omega), (Below.refl _ _).alloc (Nat.le_refl _) _⟩

set_option maxRecDepth 100000 in
set_option maxHeartbeats 1600000 in
theorem there_any (N : Nat) (most : Int) (ls : List L3) (ao : Option Addr) (n cap : Nat) (i : Int) (w : World) (h : NetAt w N most ls ao n cap) :
    Calls Try.prog 22 #[.pointer (some ⟨N, 0, none⟩), .int .i64 i] w fun e w' => e = .returned (.bool (decide (0 ≤ i ∧ i < n))) ∧ w = w' := by
  obtain ⟨c0, c1, f0, f1⟩ := two_cells h.cell
  clear h
  by_cases h0 : 0 ≤ i
  · go_enter Try.func22, Try.ntmps22
    go_wp2_with fail
    go_ret
    refine ⟨?_, rfl⟩
    show Ending.returned (.bool (decide (i < (n : Int)))) = _
    simp [h0]
  · go_enter Try.func22, Try.ntmps22
    go_wp2_with fail
    go_ret
    exact ⟨by simp; omega, rfl⟩

theorem len_any (N : Nat) (most : Int) (ls : List L3) (ao : Option Addr) (n cap : Nat) (w : World) (h : NetAt w N most ls ao n cap) :
    Calls Try.prog 11 #[.pointer (some ⟨N, 0, none⟩)] w fun e w' => e = .returned (.int .i64 (n : Nat)) ∧ w = w' := by
  obtain ⟨c0, c1, f0, f1⟩ := two_cells h.cell
  clear h
  go_enter Try.func11, Try.ntmps11
  go_wp2_with fail
  go_ret
  exact ⟨rfl, rfl⟩

theorem info_letter : (Try.prog.info? 30).map (fun i => (i.zero, i.size, i.bytes)) = some (some (.agg #[.int .i64 0, .int .i64 0, .slice none 0 0]), 3, 40) := by kernel_rfl
theorem cells_one3 (l : L3) : ∀ u ∈ l.cells, u.oneCell' = true := by
  intro u hu
  simp only [L3.cells, List.mem_cons, List.not_mem_nil, or_false] at hu
  rcases hu with rfl | rfl | rfl <;> rfl
/-- 'append(n.all, l)' as one step of a region that draws -/
theorem step_appendL {w : World} {ops : Array Oper} {o : Oper} {a : Act} {K : Act → World → Prop} {Q : Exit → Act → World → Prop} {E : Prop} (hgd : o.guard = none) (s x : Operand)
    (ho : o.op = .call { callee := .builtin .append, args := #[s, x], argTypes := #[52, 52] })
    (base : Nat) (ao : Option Addr) (n cap : Nat) (vs : List Value) (hs : a.eval s = .slice ao n cap) (hown : w.ownsRow base 30 3 (.slice ao n cap) n vs)
    (ax : Option Addr) (m c : Nat) (xs : List Value) (hx : a.eval x = .slice ax m c) (hrow : RowN w ax 3 m xs) (hnil : ax = none → c = 0) (h1 : ∀ u ∈ xs, u.oneCell' = true) (hbig : n + m ≤ 1000000000000) (hbase : base ≤ w.heap.size) (N : Nat) (hN : n + m = N)
    (h : ∀ ao' cap' w', w'.ownsRow base 30 3 (.slice ao' N cap') N (vs ++ xs) → w.grownBy w' (Value.ownBlock (.slice ao n cap)) →
      (Value.ownBlock (.slice ao' N cap') = Value.ownBlock (.slice ao n cap) ∨ Value.ownBlock (.slice ao' N cap') = some w.heap.size) → K (a.put o.dst (.slice ao' N cap')) w') :
    if Region.wanted o (yielded ops a.tmps) = true then Oper.wp Try.prog o a w K Q else E := by
  subst hN
  have hw : Region.wanted o (yielded ops a.tmps) = true := by simp [Region.wanted, hgd]
  rw [if_pos hw]
  obtain ⟨i0, hi, hz0, hz1, hz2⟩ := info_parts info_letter
  obtain ⟨ao', cap', w', hr, h2, h3, h4⟩ := run_append_row (P := Try.prog) w base 52 o.type 30 i0 _ 3 40 Try.underlying52 hi hz0 hz1 hz2 rfl (by decide) ao n cap vs hown ax m c xs hrow.1 hrow.news hnil h1 (by simp only [maxLen]; omega) (by omega) hbase
  unfold Oper.wp execOp
  simp only [ho, resolve, invoke, builtin, Sem.run_bind, Sem.run_pure, Result.andThen_ok, List.map_toArray, List.map_cons, List.map_nil, hs, hx, hr]
  exact h ao' cap' w' h2 h3 h4

/-- the net behind a letter more -/
theorem net_snoc {w w2 w3 : World} {N n cap cap3 : Nat} {most : Int} {ls : List L3} {ao ao3 : Option Addr} {o : Obj} {l : L3} (h : NetAt w N most ls ao n cap) (hb2 : Below w.heap.size w w2) (hg3 : (w2.alloc o).grownBy w3 (Value.ownBlock (.slice ao n cap)))
    (hown3 : w3.ownsRow (N + 1) 30 3 (.slice ao3 (n + 1) cap3) (n + 1) (ls.flatMap L3.cells ++ l.cells)) (hv : Own8 w2 w.heap.size l.s.a l.s.len l.s.cap l.s.bs)
    (hat : Value.ownBlock (.slice ao3 (n + 1) cap3) = Value.ownBlock (.slice ao n cap) ∨ Value.ownBlock (.slice ao3 (n + 1) cap3) = some (w2.alloc o).heap.size) :
    w3.heap[N]? = some (.cells #[.int .i64 most, .slice ao n cap] 57 (0, 0)) ∧ NetAt (w3.setCell ⟨N, 1, none⟩ (.slice ao3 (n + 1) cap3)) N most (ls ++ [l]) ao3 (n + 1) cap3 ∧ NStep w (w3.setCell ⟨N, 1, none⟩ (.slice ao3 (n + 1) cap3)) N ao ao3 := by
  have hNl := lt_of_block h.cell
  have hz2 := hb2.size
  have hmid : ∀ g, g < w2.heap.size → (w2.alloc o).heap[g]? = w2.heap[g]? := fun g hg => heap_alloc_old w2 o hg
  have hrl := h.row.lt
  have h3 : ∀ g, g < w2.heap.size → Value.ownBlock (.slice ao n cap) ≠ some g → w3.heap[g]? = w2.heap[g]? := fun g hg hn => (hg3.block g (by rw [World.size_alloc]; omega) (fun e => hn e.symm)).trans (hmid g hg)
  have hN3 : w3.heap[N]? = some (.cells #[.int .i64 most, .slice ao n cap] 57 (0, 0)) := (h3 N (by omega) (fun e => by have := (hrl N e).1; omega)).trans ((hb2.block N hNl).trans h.cell)
  have hset : ∀ g, g ≠ N → (w3.setCell ⟨N, 1, none⟩ (.slice ao3 (n + 1) cap3)).heap[g]? = w3.heap[g]? := fun g hg => Below.heap_setCell w3 _ _ g (by simpa using hg)
  have hz3 := hg3.size
  rw [World.size_alloc] at hz3
  have hrow2 : w2.ownsRow (N + 1) 30 3 (.slice ao n cap) n (ls.flatMap L3.cells) := own_keep h.row fun g _ hl => hb2.block g hl
  have k8 : ∀ (a : Option Addr) (len c : Nat) (bs : List UInt8), Own8 w2 (N + 1) a len c bs → Own8 (w3.setCell ⟨N, 1, none⟩ (.slice ao3 (n + 1) cap3)) (N + 1) a len c bs := fun a len c bs hu => own_keep hu fun g hg hl => (hset g (by have := (hu.lt g hg).1; omega)).trans (h3 g hl (fun e => own_apart hrow2 hu (by decide) g e hg))
  refine ⟨hN3, ⟨?_, by rw [List.length_append, h.len]; rfl, ?_, fun u hu => ?_⟩, ⟨hg3.os.trans hb2.os, hg3.tape.trans hb2.tape, hg3.output.trans hb2.output, by simp [World.setCell]; omega, fun k hk hn hx => ?_, fun g hg => ?_⟩⟩
  · exact set_block hN3 _
  · rw [List.flatMap_append]
    exact own_keep (by simpa using hown3) fun g hg hl => hset g (by have := (hown3.lt g hg).1; omega)
  · rcases List.mem_append.1 hu with hu | hu
    · exact k8 _ _ _ _ (own_keep (h.own u hu) fun g _ hl => hb2.block g hl)
    · rw [List.mem_singleton] at hu
      subst hu
      exact k8 _ _ _ _ (own_more hv (by omega))
  · exact (hset k hn).trans ((h3 k (by omega) (fun e => hx ((own_addr ao 0 0 n cap).trans e))).trans (hb2.block k hk))
  · rw [own_addr ao3 0 0 (n + 1) cap3] at hg
    rcases hat with e | e
    · left
      rw [own_addr ao 0 0 n cap, ← e]
      exact hg
    · right
      rw [e] at hg
      injection hg with hg
      rw [World.size_alloc] at hg
      omega

set_option maxRecDepth 100000 in
set_option maxHeartbeats 3200000 in
theorem send_full (N : Nat) (most : Int) (ls : List L3) (ao : Option Addr) (n cap : Nat) (l : Value) (w : World) (h : NetAt w N most ls ao n cap) (hf : (n : Int) = most) (hl : ∃ f t a len c, l = .agg #[.int .i64 f, .int .i64 t, .slice a len c]) :
    Calls Try.prog 8 #[.pointer (some ⟨N, 0, none⟩), l] w fun e w' => e = .returned (.int .i64 3) ∧ Below w.heap.size w w' := by
  obtain ⟨f, t, a, len, c, rfl⟩ := hl
  subst hf
  obtain ⟨c0, c1, f0, f1⟩ := two_cells (show (w.alloc (.cells #[.int .i64 f, .int .i64 t, .slice a len c] 30)).heap[N]? = _ from (heap_alloc_old w _ (lt_of_block h.cell)).trans h.cell)
  have hne := lt_of_block h.cell
  clear h
  go_enter Try.func8, Try.ntmps8
  go_wp2_with fail
  go_region_held3 (fun w' => w'.cell? ⟨N, 0, none⟩ = some (.int .i64 (n : Int)) ∧ w'.cell? ⟨N, 1, none⟩ = some (.slice ao n cap)) (first | exact ⟨c0, c1⟩) (first | fail)
  go_wp2_with fail
  go_ret
  exact ⟨rfl, ((Below.refl _ _).alloc (Nat.le_refl _) _).drew⟩

set_option maxRecDepth 100000 in
set_option maxHeartbeats 3200000 in
theorem send_any (N : Nat) (most : Int) (ls : List L3) (ao : Option Addr) (n cap : Nat) (f t : Int) (a : Option Addr) (len c : Nat) (bs : List UInt8) (w : World) (h : NetAt w N most ls ao n cap) (hf : (n : Int) ≠ most) (hn : n ≤ 1000000000) (hr : Row8 w a len bs) (hnil : a = none → len = 0 ∧ c = 0) (hl : len ≤ 140737488355328) :
    Calls Try.prog 8 #[.pointer (some ⟨N, 0, none⟩), .agg #[.int .i64 f, .int .i64 t, .slice a len c]] w fun e w' => e = .returned (.int .i64 0) ∧ ∃ s ao' cap', s.bs = bs ∧ s.len = len ∧ NetAt w' N most (ls ++ [⟨f, t, s⟩]) ao' (n + 1) cap' ∧ NStep w w' N ao ao' := by
  have hNl := lt_of_block h.cell
  have hX : Below w.heap.size w (w.alloc (.cells #[.int .i64 f, .int .i64 t, .slice a len c] 30)) := (Below.refl _ _).alloc (Nat.le_refl _) _
  have hbox := heap_alloc_new w (.cells #[.int .i64 f, .int .i64 t, .slice a len c] 30)
  have hsz := World.size_alloc w (.cells #[.int .i64 f, .int .i64 t, .slice a len c] 30)
  have hf' : ((n : Int) == most) = false := by simpa using hf
  have H := Lib.hid h
  have HR := Lib.hid hr
  clear h hr
  go_enter Try.func8, Try.ntmps8
  go_wp2_with fail
  obtain ⟨X, hXe⟩ : ∃ X, X = w.alloc (.cells #[.int .i64 f, .int .i64 t, .slice a len c] 30) := ⟨_, rfl⟩
  rw [← hXe] at hX hbox hsz ⊢
  clear hXe
  have hN := H.out.below hX
  have hrX := HR.out.below hX
  obtain ⟨c0, c1, f0, f1⟩ := two_cells hN.cell
  obtain ⟨b0, b1, b2, g0, g1, g2⟩ := three_cells hbox
  have HX := Lib.hid hX
  have HN := Lib.hid hN
  have HRX := Lib.hid hrX
  clear hX hN hrX hbox
  go_region_held3 (fun w' => w'.cell? ⟨N, 0, none⟩ = some (.int .i64 most) ∧ w'.cell? ⟨N, 1, none⟩ = some (.slice ao n cap)) (first | exact ⟨c0, c1⟩) (first | fail)
  go_wp2_with fail
  have hwk : ∀ w2, Below X.heap.size X.drew.drew w2 → w2.heap[N]? = some (.cells #[.int .i64 most, .slice ao n cap] 57 (0, 0)) := fun w2 hb => (hb.block N (by omega)).trans HN.out.cell
  have HWK := Lib.hid hwk
  clear hwk
  go_region_law (first
    | (go_simp; go_at_call 21; refine (lclone_any f t a len c bs _ (by exact HRX.out) hnil hl).mono ?_; rintro e w2 ⟨aq, cq, rfl, hown2, hb2⟩
       have hc2 := (two_cells (HWK.out _ hb2)).2.1; have hd2 : ∀ o, (w2.alloc o).cell? ⟨N, 1, none⟩ = some (.slice ao n cap) := fun o => (two_cells ((heap_alloc_old w2 o (lt_of_block (HWK.out _ hb2))).trans (HWK.out _ hb2))).2.1)
    | (refine step_appendL rfl (.tmp 19) (.tmp 22) rfl (N + 1) ao n cap (ls.flatMap L3.cells) rfl (own_keep HN.out.row fun g _ hl => (heap_alloc_old w2 _ (Nat.lt_of_lt_of_le hl hb2.size)).trans (hb2.block g hl)) (some ⟨w2.heap.size, 0, none⟩) 1 1 (L3.cells ⟨f, t, ⟨aq, len, cq, bs⟩⟩) rfl (RowN.of_block (heap_alloc_new _ _) rfl rfl) (fun h => by cases h) (cells_one3 _) (by omega) (by rw [World.size_alloc]; have := hb2.size; have e : X.drew.drew.heap.size = X.heap.size := rfl; omega) (n + 1) rfl ?_
       intro ao3 cap3 w3 hown3 hg3 hat3
       have h3 := net_snoc (l := ⟨f, t, ⟨aq, len, cq, bs⟩⟩) HN.out (w2 := w2) ⟨hb2.os, hb2.tape, hb2.output, hb2.size, hb2.block⟩ hg3 hown3 hown2 hat3
       have hc3 := (two_cells h3.1).2.1; have hf3 := (two_cells h3.1).2.2.2; have H3 := Lib.hid h3; clear h3))
  all_goals
    go_wp2_with fail
    go_ret
    exact ⟨rfl, ⟨aq, len, cq, bs⟩, ao3, cap3, rfl, rfl, H3.out.2.1, (NStep.of_below HX.out).trans H3.out.2.2⟩
end Go.Proofs.Ytnjbhjgihcgefaa
