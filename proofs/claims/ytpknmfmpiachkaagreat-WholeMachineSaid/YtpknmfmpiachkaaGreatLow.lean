/- Small laws on worlds, boxes and rows. -/
import Derived.Test.YtpknmfmpiachkaaGreatKit
import Derived.Laws.NewBlocks
import Derived.Deep.RegionHeld3
import Derived.Deep.RegionLaw
import Derived.Deep.AppendLies
import Derived.BigQuiet
import Derived.StillTailTactics
namespace Go.Proofs.YtpknmfmpiachkaaGreat
open Go.RowKit
structure NStep (w w' : World) (N : Nat) (ao ao' : Option Addr) : Prop where
 os : w'.os = w.os
 tape : w'.tape = w.tape
 output : w'.output = w.output
 size : w.heap.size ≤ w'.heap.size
 block : ∀ k, k < w.heap.size → k ≠ N → Value.ownBlock (.slice ao 0 0) ≠ some k → w'.heap[k]? = w.heap[k]?
 row : ∀ g, Value.ownBlock (.slice ao' 0 0) = some g → Value.ownBlock (.slice ao 0 0) = some g ∨ w.heap.size ≤ g
theorem NStep.of_below {w w' : World} {N : Nat} {ao : Option Addr} (h : Below w.heap.size w w') : NStep w w' N ao ao := ⟨h.os, h.tape, h.output, h.size, fun k hk _ _ => h.block k hk, fun _ h => .inl h⟩
theorem NStep.trans {a b c : World} {N : Nat} {x y z : Option Addr} (h : NStep a b N x y) (k : NStep b c N y z) : NStep a c N x z :=
 ⟨k.os.trans h.os, k.tape.trans h.tape, k.output.trans h.output, Nat.le_trans h.size k.size,
  fun i hi hn hx => (k.block i (Nat.lt_of_lt_of_le hi h.size) hn (fun e => by
   rcases h.row i e with h1 | h1
   · exact hx h1
   · omega)).trans (h.block i hi hn hx),
  fun g hg => by
   rcases k.row g hg with h1 | h1
   · exact h.row g h1
   · exact .inr (Nat.le_trans h.size h1)⟩
theorem three_cells {w : World} {B : Nat} {T : TypeId} {c0 c1 c2 : Value} (h : w.heap[B]? = some (.cells #[c0, c1, c2] T (0, 0))) :
 w.cell? ⟨B, 0, none⟩ = some c0 ∧ w.cell? ⟨B, 1, none⟩ = some c1 ∧ w.cell? ⟨B, 2, none⟩ = some c2 ∧ w.frozen? ⟨B, 0, none⟩ = false ∧ w.frozen? ⟨B, 1, none⟩ = false ∧ w.frozen? ⟨B, 2, none⟩ = false := by
 refine ⟨?_, ?_, ?_, ?_, ?_, ?_⟩ <;> simp [World.cell?, World.frozen?, h]
theorem two_cells {w : World} {B : Nat} {T : TypeId} {c0 c1 : Value} (h : w.heap[B]? = some (.cells #[c0, c1] T (0, 0))) :
 w.cell? ⟨B, 0, none⟩ = some c0 ∧ w.cell? ⟨B, 1, none⟩ = some c1 ∧ w.frozen? ⟨B, 0, none⟩ = false ∧ w.frozen? ⟨B, 1, none⟩ = false := by
 refine ⟨?_, ?_, ?_, ?_⟩ <;> simp [World.cell?, World.frozen?, h]
theorem six_cells {w : World} {B : Nat} {T : TypeId} {c0 c1 c2 c3 c4 c5 : Value} (h : w.heap[B]? = some (.cells #[c0, c1, c2, c3, c4, c5] T (0, 0))) :
 w.cell? ⟨B, 0, none⟩ = some c0 ∧ w.cell? ⟨B, 1, none⟩ = some c1 ∧ w.cell? ⟨B, 2, none⟩ = some c2 ∧ w.cell? ⟨B, 3, none⟩ = some c3 ∧ w.cell? ⟨B, 4, none⟩ = some c4 ∧ w.cell? ⟨B, 5, none⟩ = some c5 := by
 refine ⟨?_, ?_, ?_, ?_, ?_, ?_⟩ <;> simp [World.cell?, h]
def RetBox (w : World) (v : Value) (e : Ending) (w' : World) : Prop := e = .returned v ∧ Below w.heap.size w w'
theorem Row8.touch {S : List Nat} {w w' : World} {a : Option Addr} {len : Nat} {bs : List UInt8} (h : Row8 w a len bs) (ht : Touch S w w') (hd : ∀ b off, a = some ⟨b, off, none⟩ → 0 < len → b ∉ S) : Row8 w' a len bs := by
 refine ⟨h.1, fun i hi => ?_⟩
 obtain ⟨b, off, ha, hc⟩ := h.2 i hi
 refine ⟨b, off, ha, ?_⟩
 rw [World.cell?_of_block (ht.block b (World.block_lt_of_cell? w _ hc) (hd b off ha (by omega)))]
 exact hc
theorem Row8.lt {w : World} {a : Option Addr} {len : Nat} {bs : List UInt8} (h : Row8 w a len bs) (b off : Nat) (e : a = some ⟨b, off, none⟩) (hl : 0 < len) : b < w.heap.size := by
 obtain ⟨b', off', ha, hc⟩ := h.2 0 hl
 rw [e] at ha
 injection ha with ha
 injection ha with h1 _ _
 subst h1
 exact World.block_lt_of_cell? w _ hc
def SlP (P : Nat → Prop) (s : Sl) : Prop := ∀ b off, s.a = some ⟨b, off, none⟩ → 0 < s.len → P b
theorem below_alloc {w a : World} (h : Below w.heap.size w a) (o : Obj) : Below w.heap.size w (a.alloc o) := h.alloc h.size o
theorem below_then {w a b : World} (h : Below w.heap.size w a) (k : Below a.heap.size a b) : Below w.heap.size w b := h.trans (k.mono h.size)
theorem below_set {w a : World} (h : Below w.heap.size w a) {g i : Nat} (v : Value) (hg : w.heap.size ≤ g) : Below w.heap.size w (a.setCell ⟨g, i, none⟩ v) :=
 (Touch.set (S := [g]) a g i v (by simp)).below h h.size (fun k hk => by simp at hk; omega)
theorem below_cell {w w' : World} (h : Below w.heap.size w w') (a : Addr) (ha : (w.cell? a).isSome = true) : w'.cell? a = w.cell? a := by
 obtain ⟨u, hu⟩ := Option.isSome_iff_exists.1 ha
 have := h.block a.block (World.block_lt_of_cell? w a hu)
 unfold World.cell?
 rw [this]
theorem size_drew (w : World) : w.drew.heap.size = w.heap.size := rfl
theorem alloc_new1 (w : World) (o o' : Obj) : ((w.alloc o).alloc o').heap[w.heap.size + 1]? = some o' := by
 have h := heap_alloc_new (w.alloc o) o'
 rwa [World.size_alloc] at h
theorem touch_alloc {S : List Nat} {a b : World} (h : Touch S a b) (o : Obj) : Touch S a (b.alloc o) := h.trans (Touch.of_below ((Below.refl _ _).alloc (Nat.le_refl _) o))
theorem touch_set {S : List Nat} {a b : World} (h : Touch S a b) (g i : Nat) (v : Value) (hg : g ∈ S) : Touch S a (b.setCell ⟨g, i, none⟩ v) := h.trans (Touch.set b g i v hg)
theorem SlP.mono {P Q : Nat → Prop} {s : Sl} (h : SlP P s) (hPQ : ∀ b, P b → Q b) : SlP Q s := fun b off e hn => hPQ b (h b off e hn)
theorem set_far {w : World} {g g' i : Nat} {v : Value} {o : Option Obj} (h : w.heap[g]? = o) (hn : g ≠ g') : (w.setCell ⟨g', i, none⟩ v).heap[g]? = o := (Below.heap_setCell w _ v g (by simpa using fun e => hn e)).trans h
theorem alloc_far {w : World} {g : Nat} {o' : Obj} {o : Option Obj} (h : w.heap[g]? = o) (hn : g < w.heap.size) : (w.alloc o').heap[g]? = o := (heap_alloc_old w o' hn).trans h
theorem Touch.drew {S : List Nat} {w w' : World} (h : Touch S w w') : Touch S w w'.drew := ⟨h.os, h.tape, h.output, h.size, h.block⟩
/-- a move of a region's walk: what region.py prints, shorter -/
theorem wu {P : Program} {ops : Array Oper} {Q : Exit → Act → World → Prop} {md : Region.Mode} {S : World → Prop} (i : Nat) {oi : Oper} {v : Value} {fuel : Nat} {listed listed' : Array Bool} {a a' : Act} {w : World} (hi : ops[i]? = some oi) (h : wpAnyH P md ops Q S fuel listed' a' w) (hv : ∀ w, S w → (execOp a.eval oi).run P w = .ok (.value v) w := by intro wH hSw; (try dsimp only at hSw); go_simp <;> with_reducible rfl) (ha : a.put oi.dst v = a' := by (try simp only [List.getElem_toArray]); (try simp only [List.getElem_cons_succ]); (try simp only [List.getElem_cons_zero]); (try simp only [Act.put]); (try simp only [List.setIfInBounds_toArray]); (try simp only [List.set]); rfl) (hl : listed.setIfInBounds i true = listed' := by (try simp only [List.setIfInBounds_toArray]); (try simp only [List.set]); rfl) (hs : Region.noSelect ops = true := by kernel_rfl) (hf : Region.free md ops listed i = true := by kernel_rfl) (hr : (Region.ready md ops listed).contains i = true := by kernel_rfl) (hQ : ∀ c a w, Q (.panic c) (a.put oi.dst v) w → Q (.panic c) a w := by exact fun _ _ _ h => h) (hw : Region.wanted oi (yielded ops a.tmps) = true := by kernel_rfl) (hS : S w := by assumption) : wpAnyH P md ops Q S (fuel + 1) listed a w := by
 subst ha hl
 exact wpAnyH_take hi hs hf hr hQ (Or.inl ⟨hw, hv⟩) hS h
theorem wv {P : Program} {ops : Array Oper} {Q : Exit → Act → World → Prop} {md : Region.Mode} {S : World → Prop} (i : Nat) {oi : Oper} {fuel : Nat} {listed listed' : Array Bool} {a a' : Act} {w : World} (hi : ops[i]? = some oi) (h : wpAnyH P md ops Q S fuel listed' a' w) (ha : a.put oi.dst undef = a' := by (try simp only [List.getElem_toArray]); (try simp only [List.getElem_cons_succ]); (try simp only [List.getElem_cons_zero]); (try simp only [Act.put]); (try simp only [List.setIfInBounds_toArray]); (try simp only [List.set]); rfl) (hl : listed.setIfInBounds i true = listed' := by (try simp only [List.setIfInBounds_toArray]); (try simp only [List.set]); rfl) (hs : Region.noSelect ops = true := by kernel_rfl) (hf : Region.free md ops listed i = true := by kernel_rfl) (hr : (Region.ready md ops listed).contains i = true := by kernel_rfl) (hQ : ∀ c a w, Q (.panic c) (a.put oi.dst undef) w → Q (.panic c) a w := by exact fun _ _ _ h => h) (hw : Region.wanted oi (yielded ops a.tmps) = false := by kernel_rfl) (hS : S w := by assumption) : wpAnyH P md ops Q S (fuel + 1) listed a w := by
 subst ha hl
 exact wpAnyH_take hi hs hf hr hQ (Or.inr ⟨hw, rfl⟩) hS h
theorem wy {P : Program} {ops : Array Oper} {Q : Exit → Act → World → Prop} {md : Region.Mode} {S : World → Prop} (i : Nat) {o : Oper} {fuel : Nat} {listed : Array Bool} {a : Act} {w : World} (ho : ops[i]? = some o) (h : ∀ K' : Act → World → Prop, Shut (∀ a w, S w → (S w → wpAnyH P md ops Q S fuel (listed.setIfInBounds i true) a w) → K' a w) → if Region.wanted o (yielded ops a.tmps) = true then Oper.wp P o a w K' Q else K' (a.put o.dst undef) w) (hr : Region.ready md ops listed = [i] := by kernel_rfl) : wpAnyH P md ops Q S (fuel + 1) listed a w := wpAnyH_ready hr (by simp) (AllReadyH.cons ho h AllReadyH.nil)
theorem wz {P : Program} {ops : Array Oper} {Q : Exit → Act → World → Prop} {md : Region.Mode} {S : World → Prop} (i j : Nat) {o o' : Oper} {fuel : Nat} {listed : Array Bool} {a : Act} {w : World} (ho : ops[i]? = some o) (h : ∀ K' : Act → World → Prop, Shut (∀ a w, S w → (S w → wpAnyH P md ops Q S fuel (listed.setIfInBounds i true) a w) → K' a w) → if Region.wanted o (yielded ops a.tmps) = true then Oper.wp P o a w K' Q else K' (a.put o.dst undef) w) (ho' : ops[j]? = some o') (h' : ∀ K' : Act → World → Prop, Shut (∀ a w, S w → (S w → wpAnyH P md ops Q S fuel (listed.setIfInBounds j true) a w) → K' a w) → if Region.wanted o' (yielded ops a.tmps) = true then Oper.wp P o' a w K' Q else K' (a.put o'.dst undef) w) (hr : Region.ready md ops listed = [i, j] := by kernel_rfl) : wpAnyH P md ops Q S (fuel + 1) listed a w := wpAnyH_ready hr (by simp) (AllReadyH.cons ho h (AllReadyH.cons ho' h' AllReadyH.nil))
end Go.Proofs.YtpknmfmpiachkaaGreat
