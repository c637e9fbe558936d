/- Read: a function reads values; what it panics with is the answer. -/
import Derived.Test.YtdpajcamgipgkaaNum
import Derived.Defers
import Derived.Recover
namespace Go.Proofs.Ytdpajcamgipgkaa
open Go.RowKit

set_option maxRecDepth 100000 in
set_option maxHeartbeats 1600000 in
theorem caught (b : Nat) (x code : Int) (T : TypeId) (older : List PanicEntry) (w : World) (hb : w.heap[b]? = some (.cells #[.int .i64 x] T (0, 0))) :
    CallsD Try.prog 53 #[.pointer (some ⟨b, 0, none⟩)] (.panicking ({ v := .iface 78 (.agg #[.int .i64 code]), recovered := false } :: older)) w fun e u' w' =>
      e = .returned (.tuple #[]) ∧ u' = .panicking ({ v := .iface 78 (.agg #[.int .i64 code]), recovered := true } :: older) ∧ w' = (w.alloc (.cells #[.int .i64 code] 78)).setCell ⟨b, 0, none⟩ (.int .i64 code) := by
  have hc : ∀ o, (w.alloc o).cell? ⟨b, 0, none⟩ = some (.int .i64 x) := fun o => cell_of_one ((heap_alloc_old w o (lt_of_block hb)).trans hb)
  have hz : ∀ o, (w.alloc o).frozen? ⟨b, 0, none⟩ = false := fun o => free_of_one ((heap_alloc_old w o (lt_of_block hb)).trans hb)
  clear hb
  have hta : ∀ (v : Value) (w : World), (Instr.typeAssert (.iface 78 v) 20 78 true).run Try.prog w = .ok (.tuple #[v, .bool true]) w := fun _ _ => by kernel_rfl
  refine callsD_of_wpS Try.func53 rfl fun c₀ cs hu => ?_
  apply wpS_seq
  apply wpS_region
  simp [wpOpsS, go_sem, recoverD, hu, Try.ntmps53, Exit.thenS]
  refine wpS_of_wp ?_
  rw [show (#[Value.pointer (some ⟨b, 0, none⟩)] ++ (Array.replicate 11 undef).setIfInBounds 3 (Value.iface 78 (Value.agg #[Value.int IntKind.i64 code]))) = #[.pointer (some ⟨b, 0, none⟩), undef, undef, undef, .iface 78 (.agg #[.int .i64 code]), undef, undef, undef, undef, undef, undef, undef] from rfl]
  go_wp2
  simp [bodyPostS, results, Try.results53]

set_option maxHeartbeats 1600000 in
theorem caught_idle (b : Nat) (w : World) :
    CallsD Try.prog 53 #[.pointer (some ⟨b, 0, none⟩)] .returning w fun e u' w' => e = .returned (.tuple #[]) ∧ u' = .returning ∧ w' = w := by
  refine callsD_of_wpS Try.func53 rfl fun c₀ cs hu => ?_
  apply wpS_seq
  apply wpS_region
  simp [wpOpsS, go_sem, recoverD, hu, Try.ntmps53, Exit.thenS]
  refine wpS_of_wp ?_
  go_wp2
  cases c₀
  simp_all [bodyPostS, results, Try.results53]

/-- the world in which the function of a Read begins: the answer's variable in block w.heap.size, the reader behind it -/
def readStart (w : World) (a : Option Addr) (n c : Nat) : World := (w.alloc (.cells #[.int .i64 0] 29)).alloc (.cells #[.slice a n c] 76)

/-- What the function of a Read comes to: it returns, and the reader still holds 'rest'; or it panics with a code. -/
def FunPost (w : World) (D : List UInt8 → World → Prop) (F : Int → World → Prop) (e : Ending) (w' : World) : Prop :=
  w'.heap[w.heap.size]? = some (.cells #[.int .i64 0] 29 (0, 0)) ∧
  ((∃ rest, e = .returned (.tuple #[]) ∧ Rd w' (w.heap.size + 1) rest ∧ D rest w') ∨ (∃ code, e = Wrong code ∧ F code w'))

/-- .. and what Read then comes to. -/
def ReadsTo (w : World) (D : List UInt8 → World → Prop) (F : Int → World → Prop) (e : Ending) (w' : World) : Prop :=
  (∃ rest w1, D rest w1 ∧ e = .returned (.int .i64 (if rest = [] then 0 else 30)) ∧ w1.heap.size ≤ w'.heap.size ∧ w1.grownBy w' (some w.heap.size)) ∨
  (∃ code w1, F code w1 ∧ e = .returned (.int .i64 code) ∧ w1.grownBy w' (some w.heap.size))

set_option maxHeartbeats 1600000 in
theorem read_any (K : FuncId) (caps : Array Value) (a : Option Addr) (n c : Nat) (w : World) (D : List UInt8 → World → Prop) (F : Int → World → Prop)
    (hcf : ∀ (args : Array Value) (w : World), (callFunc K args).run Try.prog w = .ok (.enter K args) w)
    (hf : Calls Try.prog K (#[.pointer (some ⟨w.heap.size + 1, 0, none⟩)] ++ caps) (readStart w a n c) (FunPost w D F)) :
    Calls Try.prog 25 #[.slice a n c, .func (.func K) #[] caps] w (ReadsTo w D F) := by
  have hmf : ∀ (fn : Fn) (first cap : Array Value) (w : World), (Instr.makeFunc fn first cap).run Try.prog w = .ok (.func fn first cap) w := fun _ _ _ _ => rfl
  have HF := Lib.hid hf
  clear hf
  go_enter_defers Try.func25, Try.ntmps25
  go_wp2_with fail
  refine HF.out.mono ?_
  rintro e w1 ⟨hblk, ⟨rest, rfl, hrd, hD⟩ | ⟨code, rfl, hF⟩⟩
  · obtain ⟨a', n', c', hR, hrow, hnc, hcm, hnil, _⟩ := hrd
    have hcell := cell_of_one hR
    have hc4 := cell_of_one hblk
    have hf4 := free_of_one hblk
    have hlen := hrow.1
    have HR := Lib.hid hR
    have HB := Lib.hid hblk
    have HL := Lib.hid hlen
    clear hR hrow hblk hlen
    by_cases h0 : n' = 0
    · have h0' : ¬ (0 : Int) < (n' : Int) := by omega
      have hrest : rest = [] := List.eq_nil_of_length_eq_zero (by rw [HL.out]; exact h0)
      have HRS := Lib.hid hrest
      clear h0 hrest
      go_wp2_with fail
      refine leaves_cons (f := 53) (args := #[.pointer (some ⟨w.heap.size, 0, none⟩)]) (by simp) (by simp [go_sem]) ?_
      refine (caught_idle w.heap.size _).mono ?_
      rintro e u' w'' ⟨rfl, rfl, rfl⟩
      have hres : (w1.setCell ⟨w.heap.size, 0, none⟩ (.int .i64 0)).cell? ⟨w.heap.size, 0, none⟩ = some (.int .i64 0) := cell_of_one (one_setCell HB.out)
      have hend : ReadsTo w D F (.returned (.int .i64 0)) (w1.setCell ⟨w.heap.size, 0, none⟩ (.int .i64 0)) := .inl ⟨rest, w1, hD, by rw [if_pos HRS.out], by simp [World.setCell], grown_set _ _ _ _⟩
      simp [Leaves, settle, results, Try.results25, go_sem, hres, hend]
    · have h0' : (0 : Int) < (n' : Int) := by omega
      go_wp2_with fail
      refine leaves_cons (f := 53) (args := #[.pointer (some ⟨w.heap.size, 0, none⟩)]) (by simp) (by simp [go_sem]) ?_
      refine (caught_idle w.heap.size _).mono ?_
      rintro e u' w'' ⟨rfl, rfl, rfl⟩
      have hres : (w1.setCell ⟨w.heap.size, 0, none⟩ (.int .i64 30)).cell? ⟨w.heap.size, 0, none⟩ = some (.int .i64 30) := cell_of_one (one_setCell HB.out)
      have hend : ReadsTo w D F (.returned (.int .i64 30)) (w1.setCell ⟨w.heap.size, 0, none⟩ (.int .i64 30)) := .inl ⟨rest, w1, hD, by rw [if_neg (fun e => by have := HL.out; rw [e] at this; simp at this; omega)], by simp [World.setCell], grown_set _ _ _ _⟩
      simp [Leaves, settle, results, Try.results25, go_sem, hres, hend]
  · simp only [Wrong]
    go_wp2
    refine leaves_cons (f := 53) (args := #[.pointer (some ⟨w.heap.size, 0, none⟩)]) (by simp) (by simp [go_sem]) ?_
    refine (caught w.heap.size 0 code _ [] w1 hblk).mono ?_
    rintro e u' w'' ⟨rfl, rfl, rfl⟩
    have hblk' := (heap_alloc_old w1 (.cells #[.int .i64 code] 78) (lt_of_block hblk)).trans hblk
    have hres := cell_of_one (one_setCell (u := .int .i64 code) hblk')
    have hend : ReadsTo w D F (.returned (.int .i64 code)) ((w1.alloc (.cells #[.int .i64 code] 78)).setCell ⟨w.heap.size, 0, none⟩ (.int .i64 code)) := .inr ⟨code, w1, hF, rfl, grown_step (World.grownBy_alloc _ _ _) (grown_set _ _ _ _) (.inl rfl)⟩
    simp [Leaves, settle, results, Try.results25, go_sem, hres, hend]

end Go.Proofs.Ytdpajcamgipgkaa
