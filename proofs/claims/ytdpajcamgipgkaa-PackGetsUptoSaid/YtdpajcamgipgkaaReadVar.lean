/- Read with a function that leaves values in variables. -/
import Derived.Test.YtdpajcamgipgkaaRead
import Derived.Test.YtdpajcamgipgkaaTouch
namespace Go.Proofs.Ytdpajcamgipgkaa
open Go.RowKit

/-- these blocks hold these objects -/
def Holds (l : List (Nat × Obj)) (w : World) : Prop := ∀ p ∈ l, w.heap[p.1]? = some p.2

/-- What a function over a reader does to variables. -/
def VarPost {α : Type} (w : World) (R : Nat) (S : List Nat) (res : Option (α × List UInt8)) (D : α → World → Prop) (e : Ending) (w' : World) : Prop :=
  (∀ v rest, res = some (v, rest) → e = .returned (.tuple #[]) ∧ Rd w' R rest ∧ D v w' ∧ Touch S w w') ∧ (res = none → e = Wrong 30 ∧ Touch [R] w w')
theorem VarPost.mk_ok {α : Type} {w : World} {R : Nat} {S : List Nat} {v : α} {rest : List UInt8} {D : α → World → Prop} {e : Ending} {w' : World} (he : e = .returned (.tuple #[])) (hr : Rd w' R rest) (hd : D v w') (ht : Touch S w w') : VarPost w R S (some (v, rest)) D e w' :=
  ⟨fun _ _ h => by injection h with h; injection h with h1 h2; subst h1 h2; exact ⟨he, hr, hd, ht⟩, fun h => by cases h⟩
theorem VarPost.mk_no {α : Type} {w : World} {R : Nat} {S : List Nat} {D : α → World → Prop} {e : Ending} {w' : World} (he : e = Wrong 30) (ht : Touch [R] w w') : VarPost w R S (none : Option (α × List UInt8)) D e w' :=
  ⟨(fun _ _ h => by cases h), fun _ => ⟨he, ht⟩⟩

theorem Rd.start {w : World} {a : Option Addr} {n c : Nat} {bs : List UInt8} (h : Row8 w a n bs) (hnc : n ≤ c) (hcm : c ≤ maxLen) (hnil : a = none → c = 0) : Rd (readStart w a n c) (w.heap.size + 1) bs := by
  refine ⟨a, n, c, ?_, (h.alloc _).alloc _, hnc, hcm, hnil, fun b off e hn => ?_⟩
  rotate_left
  · obtain ⟨b', off', e', hc⟩ := h.2 0 hn
    rw [e] at e'
    injection e' with e'
    injection e' with e1
    have := World.block_lt_of_cell? w _ hc
    simp only at this
    omega
  have := heap_alloc_new (w.alloc (.cells #[.int .i64 0] 29)) (.cells #[.slice a n c] 76)
  rw [World.size_alloc] at this
  exact this
theorem readStart_old {w : World} {a : Option Addr} {n c : Nat} {k : Nat} (h : k < w.heap.size) : (readStart w a n c).heap[k]? = w.heap[k]? :=
  (heap_alloc_old _ _ (by rw [World.size_alloc]; omega)).trans (heap_alloc_old w _ h)
theorem readStart_size (w : World) (a : Option Addr) (n c : Nat) : (readStart w a n c).heap.size = w.heap.size + 2 := by
  unfold readStart
  rw [World.size_alloc, World.size_alloc]
theorem readStart_below (w : World) (a : Option Addr) (n c : Nat) : Below w.heap.size w (readStart w a n c) := ((Below.refl _ _).alloc (Nat.le_refl _) _).alloc (by rw [World.size_alloc]; omega) _

/-- what a Read leaves -/
def ReadVar {α : Type} (w : World) (S : List Nat) (res : Option (α × List UInt8)) (D : α → List (Nat × Obj)) (e : Ending) (w' : World) : Prop :=
  (∀ v rest, res = some (v, rest) → e = .returned (.int .i64 (if rest = [] then 0 else 30)) ∧ Holds (D v) w') ∧ (res = none → e = .returned (.int .i64 30) ∧ Touch [] w w') ∧ Touch S w w'

theorem read_var {α : Type} (K : FuncId) (caps : Array Value) (a : Option Addr) (n c : Nat) (w : World) (S : List Nat) (res : Option (α × List UInt8)) (D : α → List (Nat × Obj))
    (hcf : ∀ (args : Array Value) (w : World), (callFunc K args).run Try.prog w = .ok (.enter K args) w) (hS : ∀ k ∈ S, k < w.heap.size) (hD : ∀ v, ∀ p ∈ D v, p.1 < w.heap.size)
    (hf : Calls Try.prog K (#[.pointer (some ⟨w.heap.size + 1, 0, none⟩)] ++ caps) (readStart w a n c) (VarPost (readStart w a n c) (w.heap.size + 1) ((w.heap.size + 1) :: S) res fun v w' => Holds (D v) w')) :
    Calls Try.prog 25 #[.slice a n c, .func (.func K) #[] caps] w (ReadVar w S res D) := by
  have hno : w.heap.size ∉ (w.heap.size + 1) :: S := fun h => by
    rcases List.mem_cons.1 h with h | h
    · omega
    · have := hS _ h; omega
  have key := read_any K caps a n c w (fun rest w' => ∃ v, res = some (v, rest) ∧ Holds (D v) w' ∧ Touch ((w.heap.size + 1) :: S) (readStart w a n c) w') (fun code w' => res = none ∧ code = 30 ∧ Touch [w.heap.size + 1] (readStart w a n c) w') hcf (hf.mono fun e w' hp => by
    have hcode : (readStart w a n c).heap[w.heap.size]? = some (.cells #[.int .i64 0] 29 (0, 0)) :=
      (heap_alloc_old _ _ (by rw [World.size_alloc]; omega)).trans (heap_alloc_new w _)
    have hb : Touch ((w.heap.size + 1) :: S) (readStart w a n c) w' → w'.heap[w.heap.size]? = some (.cells #[.int .i64 0] 29 (0, 0)) := fun ht =>
      (ht.block _ (by rw [readStart_size]; omega) hno).trans hcode
    cases hres : res with
    | none =>
      obtain ⟨he, ht⟩ := hp.2 hres
      exact ⟨hb (ht.mono (fun k hk => by rw [List.mem_singleton] at hk; rw [hk]; exact List.mem_cons_self ..)), .inr ⟨30, he, rfl, rfl, ht⟩⟩
    | some p =>
      obtain ⟨v, rest⟩ := p
      obtain ⟨he, hr, hd, ht⟩ := hp.1 v rest hres
      exact ⟨hb ht, .inl ⟨rest, he, hr, v, rfl, hd, ht⟩⟩)
  have fin : ∀ (S : List Nat) w1 w', Touch ((w.heap.size + 1) :: S) (readStart w a n c) w1 → w1.grownBy w' (some w.heap.size) → Touch S w w' := fun S w1 w' ht hg => by
    have hb := readStart_below w a n c
    refine ⟨hg.os.trans (ht.os.trans hb.os), hg.tape.trans (ht.tape.trans hb.tape), hg.output.trans (ht.output.trans hb.output), Nat.le_trans hb.size (Nat.le_trans ht.size hg.size), fun k hk hn => ?_⟩
    have h1 := ht.size
    rw [readStart_size] at h1
    rw [hg.block k (by omega) (fun e => by injection e; omega), ht.block k (by rw [readStart_size]; omega) (fun h => by
      rcases List.mem_cons.1 h with h | h
      · omega
      · exact hn h), readStart_old hk]
  refine key.mono fun e w' hp => ?_
  rcases hp with ⟨rest, w1, ⟨v, hres, hd, ht⟩, he, _, hg⟩ | ⟨code, w1, ⟨hres, hcode, ht⟩, he, hg⟩
  · refine ⟨fun v' rest' h => ?_, (fun h => by rw [hres] at h; cases h), fin S w1 w' ht hg⟩
    rw [hres] at h
    injection h with h
    injection h with h1 h2
    subst h1 h2
    refine ⟨he, fun p hp => ?_⟩
    have h3 := hD v p hp
    have h4 := lt_of_block (hd p hp)
    rw [hg.block p.1 h4 (fun e => by injection e; omega)]
    exact hd p hp
  · have h0 := fin [] w1 w' ht hg
    exact ⟨fun v' rest' h => (by rw [hres] at h; cases h), fun _ => ⟨by rw [he, hcode], h0⟩, h0.mono (fun k hk => by cases hk)⟩

end Go.Proofs.Ytdpajcamgipgkaa
