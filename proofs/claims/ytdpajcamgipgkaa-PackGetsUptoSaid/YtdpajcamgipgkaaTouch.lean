/- Which blocks a call may turn; a call of a function that has a body. -/
import Derived.Test.YtdpajcamgipgkaaReader
namespace Go.Proofs.Ytdpajcamgipgkaa
open Go.RowKit

/-- Only these blocks, and new ones, may have turned. -/
structure Touch (S : List Nat) (w w' : World) : Prop where
  os : w'.os = w.os
  tape : w'.tape = w.tape
  output : w'.output = w.output
  size : w.heap.size ≤ w'.heap.size
  block : ∀ k, k < w.heap.size → k ∉ S → w'.heap[k]? = w.heap[k]?

theorem Touch.refl (S : List Nat) (w : World) : Touch S w w := ⟨rfl, rfl, rfl, Nat.le_refl _, fun _ _ _ => rfl⟩
theorem Touch.trans {S : List Nat} {a b c : World} (h : Touch S a b) (k : Touch S b c) : Touch S a c :=
  ⟨k.os.trans h.os, k.tape.trans h.tape, k.output.trans h.output, Nat.le_trans h.size k.size, fun i hi hn => (k.block i (Nat.lt_of_lt_of_le hi h.size) hn).trans (h.block i hi hn)⟩
theorem Touch.of_grown {S : List Nat} {w w' : World} {R : Nat} (h : w.grownBy w' (some R)) (hR : R ∈ S) : Touch S w w' :=
  ⟨h.os, h.tape, h.output, h.size, fun k hk hn => h.block k hk (fun e => hn (by injection e with e; rw [e]; exact hR))⟩
theorem Touch.set {S : List Nat} (w : World) (b o : Nat) (v : Value) (hb : b ∈ S) : Touch S w (w.setCell ⟨b, o, none⟩ v) := Touch.of_grown (grown_set w b o v) hb
theorem Touch.alloc (S : List Nat) (w : World) (o : Obj) : Touch S w (w.alloc o) := ⟨rfl, rfl, rfl, by simp, fun _ hk _ => heap_alloc_old w o hk⟩
theorem Touch.of_below {S : List Nat} {w w' : World} (h : Below w.heap.size w w') : Touch S w w' := ⟨h.os, h.tape, h.output, h.size, fun k hk _ => h.block k hk⟩
theorem Touch.mono {S T : List Nat} {w w' : World} (h : Touch S w w') (hs : ∀ k, k ∈ S → k ∈ T) : Touch T w w' := ⟨h.os, h.tape, h.output, h.size, fun k hk hn => h.block k hk fun hi => hn (hs k hi)⟩
theorem Touch.below {S : List Nat} {a w w' : World} {B : Nat} (h : Touch S w w') (hb : Below B a w) (hB : B ≤ w.heap.size) (hS : ∀ k ∈ S, B ≤ k) : Below B a w' :=
  hb.trans ⟨h.os, h.tape, h.output, h.size, fun k hk => h.block k (by omega) (fun hi => by have := hS k hi; omega)⟩

theorem enters {f : FuncId} {fn : Func} {c : Code} (hf : Try.prog.funcs[f]? = some fn) (hname : (fn.name == "runtime.NumGoroutine") = false) (hb : fn.body = some c) (args : Array Value) (w : World) :
    (callFunc f args).run Try.prog w = .ok (.enter f args) w := by
  have h1 : fn.name ≠ "runtime.NumGoroutine" := by simpa using hname
  simp [callFunc, hf, h1, hb]

/-- A block of one number is no row of bytes: storing into it leaves the reader as it is. -/
theorem Rd.setOther {w : World} {R N : Nat} {bs : List UInt8} {v u : Value} {T : TypeId} (h : Rd w R bs) (hN : w.heap[N]? = some (.cells #[v] T (0, 0))) (hv : ∀ n, v ≠ .int .u8 n) (hne : N ≠ R) : Rd (w.setCell ⟨N, 0, none⟩ u) R bs := by
  obtain ⟨a, n, c, hR', hrow, h1, h2, h3⟩ := h
  refine ⟨a, n, c, (Below.heap_setCell w _ u R (fun e => hne e.symm)).trans hR', hrow.set _ ?_, h1, h2, h3⟩
  rintro b off rfl hl rfl
  obtain ⟨b', off', he, hc⟩ := hrow.2 0 hl
  simp only [Option.some.injEq, Addr.mk.injEq, and_true] at he
  obtain ⟨rfl, rfl⟩ := he
  simp only [World.cell?, hN, Nat.add_zero] at hc
  cases off with
  | zero => simp at hc; exact hv _ hc
  | succ m => simp at hc

end Go.Proofs.Ytdpajcamgipgkaa
