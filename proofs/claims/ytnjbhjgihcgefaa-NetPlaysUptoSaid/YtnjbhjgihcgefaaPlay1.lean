/- NetPlays: what holds from round to round. -/
import Derived.Test.YtnjbhjgihcgefaaRefAny
import Derived.Test.YtnjbhjgihcgefaaAll2
import Derived.Test.YtnjbhjgihcgefaaMadeMath
import Derived.Deep.RegionHeld3
namespace Go.Proofs.Ytnjbhjgihcgefaa
open Go.RowKit

theorem below_alloc {w a : World} (h : Below w.heap.size w a) (o : Obj) : Below w.heap.size w (a.alloc o) := h.alloc h.size o
theorem below_then {w a b : World} (h : Below w.heap.size w a) (k : Below a.heap.size a b) : Below w.heap.size w b := h.trans (k.mono h.size)
theorem below_set {w a : World} (h : Below w.heap.size w a) {g i : Nat} (v : Value) (hg : w.heap.size ≤ g) : Below w.heap.size w (a.setCell ⟨g, i, none⟩ v) :=
  (Touch.set (S := [g]) a g i v (by simp)).below h h.size (fun k hk => by simp at hk; omega)
theorem below_cell {w w' : World} (h : Below w.heap.size w w') (a : Addr) (ha : (w.cell? a).isSome = true) : w'.cell? a = w.cell? a := by
  obtain ⟨u, hu⟩ := Option.isSome_iff_exists.1 ha
  have := h.block a.block (World.block_lt_of_cell? w a hu)
  unfold World.cell?
  rw [this]
theorem below_frz {w w' : World} (h : Below w.heap.size w w') (a : Addr) (ha : (w.cell? a).isSome = true) : w'.frozen? a = w.frozen? a := by
  obtain ⟨u, hu⟩ := Option.isSome_iff_exists.1 ha
  have := h.block a.block (World.block_lt_of_cell? w a hu)
  unfold World.frozen?
  rw [this]

theorem size_drew (w : World) : w.drew.heap.size = w.heap.size := rfl
theorem alloc_new1 (w : World) (o o' : Obj) : ((w.alloc o).alloc o').heap[w.heap.size + 1]? = some o' := by
  have h := heap_alloc_new (w.alloc o) o'
  rwa [World.size_alloc] at h

/-- not the net, not the document's box, not the net's row -/
def Far (N B : Nat) (ao : Option Addr) (b : Nat) : Prop := b ≠ N ∧ b ≠ B ∧ Value.ownBlock (.slice ao 0 0) ≠ some b
theorem SlP.mono {P Q : Nat → Prop} {s : Sl} (h : SlP P s) (hPQ : ∀ b, P b → Q b) : SlP Q s := fun b off e hn => hPQ b (h b off e hn)
theorem RefAt.inside {w : World} {P : Nat → Prop} {us : List L3} {a : Option Addr} {n : Nat} (h : RefAt w P us a n) : RefAt w (fun b => P b ∧ b < w.heap.size) us a n :=
    ⟨h.len, h.row, fun u hu => ⟨(h.ok u hu).1, fun b off e hn => ⟨(h.ok u hu).2 b off e hn, (h.ok u hu).1.1.lt b off e hn⟩⟩, fun b off e hn => ⟨h.far b off e hn, by
      obtain ⟨b', off', ha, hc⟩ := h.row.2 (by omega)
      rw [e] at ha
      injection ha with ha
      injection ha with h1 _ _
      subst h1
      obtain ⟨v, hv⟩ : ∃ v, (us.flatMap L3.cells)[0]? = some v := ⟨_, List.getElem?_eq_getElem (by have := h.row.1; omega)⟩
      exact World.block_lt_of_cell? w _ (hc 0 v hv)⟩⟩

structure PlayAt (w : World) (N B : Nat) (most : Nat) (ls us : List L3) (ao ar : Option Addr) (n cn cr : Nat) : Prop where
  net : NetAt w N most ls ao n cn
  box : w.heap[B]? = some (.cells #[.int .i64 most, .slice ar n cr] 40 (0, 0))
  ref : RefAt w (Far N B ao) us ar n
  same : ls.map L3.says = us.map L3.says
  ne : N ≠ B
  cap : n ≤ most
  small : ∀ x ∈ ls.map L3.says, x.2.2.length ≤ 1048576
theorem PlayAt.below {w w' : World} {N B most : Nat} {ls us : List L3} {ao ar : Option Addr} {n cn cr : Nat} (h : PlayAt w N B most ls us ao ar n cn cr) (hb : Below w.heap.size w w') : PlayAt w' N B most ls us ao ar n cn cr :=
  ⟨h.net.below hb, (hb.block B (lt_of_block h.box)).trans h.box, h.ref.below hb, h.same, h.ne, h.cap, h.small⟩
theorem PlayAt.far {w : World} {N B most : Nat} {ls us : List L3} {ao ar : Option Addr} {n cn cr : Nat} (h : PlayAt w N B most ls us ao ar n cn cr) : ∀ b, w.heap.size ≤ b → Far N B ao b := fun b hb =>
  ⟨by have := lt_of_block h.net.cell; omega, by have := lt_of_block h.box; omega, fun e => by rw [own_addr ao 0 0 n cn] at e; have := (h.net.row.lt b e).2; omega⟩
theorem PlayAt.big {w : World} {N B most : Nat} {ls us : List L3} {ao ar : Option Addr} {n cn cr : Nat} (h : PlayAt w N B most ls us ao ar n cn cr) : ∀ x ∈ ls, x.s.len ≤ 140737488355328 := fun x hx => by
  have h1 := h.small x.says (List.mem_map.2 ⟨x, hx, rfl⟩)
  have h2 := (h.net.own x hx).length
  simp only [L3.says] at h1
  omega
theorem PlayAt.bigR {w : World} {N B most : Nat} {ls us : List L3} {ao ar : Option Addr} {n cn cr : Nat} (h : PlayAt w N B most ls us ao ar n cn cr) : ∀ x ∈ us, x.s.len ≤ 140737488355328 := fun x hx => by
  have h1 := h.small x.says (by rw [h.same]; exact List.mem_map.2 ⟨x, hx, rfl⟩)
  have h2 := (h.ref.ok x hx).1.1.1
  simp only [L3.says] at h1
  omega
/-- behind the net's step the document is as it was -/
theorem PlayAt.does {w w' : World} {N B most : Nat} {ls us ls' : List L3} {ao ar ao' : Option Addr} {n cn cr n' cn' : Nat} (h : PlayAt w N B most ls us ao ar n cn cr) (hN : NetAt w' N most ls' ao' n' cn') (hs : NStep w w' N ao ao') :
    w'.heap[B]? = some (.cells #[.int .i64 most, .slice ar n cr] 40 (0, 0)) ∧ RefAt w' (Far N B ao') us ar n ∧ (∀ b, w'.heap.size ≤ b → Far N B ao' b) := by
  have hB := lt_of_block h.box
  have hBo : Value.ownBlock (.slice ao 0 0) ≠ some B := fun e => own_ne h.net.row h.box (by decide) ((own_addr ao n cn 0 0).trans e)
  have hbx := (hs.block B hB h.ne.symm hBo).trans h.box
  have ht : Touch (N :: (Value.ownBlock (.slice ao 0 0)).toList) w w' := ⟨hs.os, hs.tape, hs.output, hs.size, fun k hk hn => hs.block k hk (fun e => hn (by simp [e])) (fun e => hn (by simp [e]))⟩
  refine ⟨hbx, (h.ref.inside.touch ht (fun b hb hm => ?_)).mono (fun b hb => ⟨hb.1.1, hb.1.2.1, fun e => ?_⟩), fun b hb => ⟨by have := lt_of_block hN.cell; omega, by have := hs.size; omega, fun e => by rw [own_addr ao' 0 0 n' cn'] at e; have := (hN.row.lt b e).2; omega⟩⟩
  · rcases List.mem_cons.1 hm with rfl | hm
    · exact hb.1.1 rfl
    · exact hb.1.2.2 (by simpa using hm)
  · rcases hs.row b e with h1 | h1
    · exact hb.1.2.2 h1
    · omega

theorem touch_alloc {S : List Nat} {a b : World} (h : Touch S a b) (o : Obj) : Touch S a (b.alloc o) := h.trans (Touch.of_below ((Below.refl _ _).alloc (Nat.le_refl _) o))
theorem touch_set {S : List Nat} {a b : World} (h : Touch S a b) (g i : Nat) (v : Value) (hg : g ∈ S) : Touch S a (b.setCell ⟨g, i, none⟩ v) := h.trans (Touch.set b g i v hg)
/-- the document's answer, behind the stores into the variables of the round -/
theorem play_end {X w6 W : World} {P : Nat → Prop} {us' : List L3} {ar' : Option Addr} {n' b11 b12 Z : Nat} {s : Sl} (hX : Below X.heap.size X w6) (hR : RefAt w6 (Apart P X.heap.size Z) us' ar' n') (hS : Sl.ok w6 s) (hsp : SlP (Apart P X.heap.size Z) s) (hT : Touch [b11, b12] w6 W)
    (h1 : X.heap.size ≤ b11 ∧ (b11 < Z ∨ w6.heap.size ≤ b11)) (h2 : X.heap.size ≤ b12 ∧ (b12 < Z ∨ w6.heap.size ≤ b12)) :
    RefAt W P us' ar' n' ∧ Sl.ok W s ∧ SlP P s ∧ X.heap.size ≤ b11 ∧ X.heap.size ≤ b12 ∧ Below X.heap.size X W := by
  have hk : ∀ b, (P b ∧ (b < X.heap.size ∨ Z ≤ b)) ∧ b < w6.heap.size → b ∉ [b11, b12] := fun b hb hm => by
    have := hb.1.2
    have := hb.2
    simp only [List.mem_cons, List.not_mem_nil, or_false] at hm
    omega
  refine ⟨(hR.inside.touch hT hk).mono fun b hb => hb.1.1, hS.touch (P := fun b => (P b ∧ (b < X.heap.size ∨ Z ≤ b)) ∧ b < w6.heap.size) (fun b off e hn => ⟨hsp b off e hn, hS.1.lt b off e hn⟩) hT hk, hsp.mono fun b hb => hb.1, h1.1, h2.1, hT.below hX hX.size fun k hk => ?_⟩
  simp only [List.mem_cons, List.not_mem_nil, or_false] at hk
  omega

theorem small_step (most : Nat) {xs : List Says} (kd i k : Int) (l : Says) (h : ∀ x ∈ xs, x.2.2.length ≤ 1048576) (hl : l.2.2.length ≤ 1048576) : ∀ x ∈ (netStep most xs kd i k l).1, x.2.2.length ≤ 1048576 :=
  made_len (made_step most kd i k l (fun x hx => ⟨x, hx, begOf.refl x⟩)) fun y hy => by
    split at hy
    · rcases List.mem_append.1 hy with hy | hy
      · exact h y hy
      · rw [List.mem_singleton] at hy
        subst hy
        exact hl
    · exact h y hy
theorem mostOf_nat (m : Int) : ∃ k : Nat, mostOf m = (k : Int) ∧ k ≤ 1000 := ⟨(mostOf m).toNat, by unfold mostOf; split <;> (try split) <;> omega, by unfold mostOf; split <;> (try split) <;> omega⟩
end Go.Proofs.Ytnjbhjgihcgefaa
