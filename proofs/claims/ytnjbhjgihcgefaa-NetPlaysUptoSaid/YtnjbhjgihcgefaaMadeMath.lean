/- NetMade: the plain law: every letter under way is a beginning of one that was sent. -/
import Derived.Test.YtnjbhjgihcgefaaDoes2
namespace Go.Proofs.Ytnjbhjgihcgefaa
open Go.RowKit

/-- x is a beginning of y, from and to the same -/
def begOf (x y : Says) : Prop := x.1 = y.1 ∧ x.2.1 = y.2.1 ∧ ∃ t, y.2.2 = x.2.2 ++ t
theorem begOf.refl (x : Says) : begOf x x := ⟨rfl, rfl, [], by simp⟩
theorem begOf.short {x y : Says} (h : begOf x y) : begOf (x.1, x.2.1, x.2.2.dropLast) y := by
  obtain ⟨h1, h2, t, h3⟩ := h
  by_cases h0 : x.2.2 = []
  · exact ⟨h1, h2, y.2.2, by simp [h0]⟩
  · have he : x.2.2.dropLast ++ [x.2.2.getLast h0] = x.2.2 := List.dropLast_concat_getLast h0
    refine ⟨h1, h2, x.2.2.getLast h0 :: t, ?_⟩
    calc y.2.2 = x.2.2 ++ t := h3
      _ = (x.2.2.dropLast ++ [x.2.2.getLast h0]) ++ t := by rw [he]
      _ = _ := by simp
def Made (xs ys : List Says) : Prop := ∀ x ∈ xs, ∃ y ∈ ys, begOf x y
theorem Made.more {xs ys : List Says} (h : Made xs ys) (zs : List Says) : Made xs (ys ++ zs) := fun x hx => by
  obtain ⟨y, hy, hb⟩ := h x hx
  exact ⟨y, List.mem_append_left _ hy, hb⟩
theorem Made.sub {xs xs' ys : List Says} (h : Made xs ys) (hs : ∀ x ∈ xs', x ∈ xs) : Made xs' ys := fun x hx => h x (hs x hx)
theorem getD_mem {xs : List Says} {i : Int} (h : 0 ≤ i ∧ i < (xs.length : Int)) : xs.getD i.toNat zSays ∈ xs := by
  rw [List.getD_eq_getElem?_getD, List.getElem?_eq_getElem (by omega)]
  exact List.getElem_mem _
theorem Made.set {xs ys : List Says} (h : Made xs ys) (i : Nat) {x : Says} (hx : ∃ y ∈ ys, begOf x y) : Made (xs.set i x) ys := fun z hz => by
  rcases List.mem_or_eq_of_mem_set hz with hz | rfl
  · exact h z hz
  · exact hx
theorem made_step (most : Int) {xs ys : List Says} (kd i k : Int) (l : Says) (h : Made xs ys) : Made (netStep most xs kd i k l).1 (if kd = 1 then ys ++ [l] else ys) := by
  unfold netStep
  by_cases h1 : kd = 1
  · rw [if_pos h1, if_pos h1]
    split
    · exact h.more _
    · intro x hx
      rcases List.mem_append.1 hx with hx | hx
      · exact h.more _ x hx
      · rw [List.mem_singleton] at hx
        subst hx
        exact ⟨x, by simp, begOf.refl x⟩
  · rw [if_neg h1, if_neg h1]
    split
    · exact h
    · rename_i hi
      have hi' : 0 ≤ i ∧ i < (xs.length : Int) := Classical.not_not.1 hi
      have hm := getD_mem hi'
      split
      · exact h.sub fun x hx => List.mem_of_mem_eraseIdx hx
      · split
        · exact h.sub fun x hx => List.mem_of_mem_eraseIdx hx
        · split
          · split
            · exact h
            · intro x hx
              rcases List.mem_append.1 hx with hx | hx
              · exact h x hx
              · rw [List.mem_singleton] at hx
                rw [hx]
                exact h _ hm
          · split
            · split
              · exact h
              · rename_i hk
                exact (h.set _ (h _ (getD_mem (Classical.not_not.1 hk)))).set _ (h _ hm)
            · split
              · exact h
              · obtain ⟨y, hy, hb⟩ := h _ hm
                exact h.set _ ⟨y, hy, hb.short⟩
theorem len_step (most : Nat) {xs : List Says} (kd i k : Int) (l : Says) (h : xs.length ≤ most) : (netStep most xs kd i k l).1.length ≤ most := by
  unfold netStep
  repeat' split
  all_goals first
    | exact h
    | (rw [List.length_append, List.length_singleton]; omega)
    | (rw [List.length_eraseIdx]; split <;> omega)
    | (rw [List.length_set, List.length_set]; exact h)
    | (rw [List.length_set]; exact h)
theorem made_len {xs ys : List Says} {B : Nat} (h : Made xs ys) (hB : ∀ y ∈ ys, y.2.2.length ≤ B) : ∀ x ∈ xs, x.2.2.length ≤ B := fun x hx => by
  obtain ⟨y, hy, _, _, t, ht⟩ := h x hx
  have := hB y hy
  rw [ht, List.length_append] at this
  omega

theorem own_ne {w : World} {base : Nat} {e T : TypeId} {size : Nat} {v : Value} {n N : Nat} {xs : List Value} {cs : Array Value} {fr : Nat × Nat} (h : w.ownsRow base e size v n xs) (hN : w.heap[N]? = some (.cells cs T fr)) (hT : T ≠ e) : v.ownBlock ≠ some N := fun e1 => by
  rcases h.2 with ⟨rfl, _⟩ | ⟨g, cp, cur, rfl, _, hg, _⟩
  · cases e1
  · injection e1 with e1
    simp only at e1
    subst e1
    rw [hN] at hg
    injection hg with hg
    injection hg with _ hh _
    exact hT hh

/-- what the script has sent so far: a row of the law's own, apart from the net's -/
structure SentAt (w w0 : World) (N : Nat) (us : List L3) (ak : Option Addr) (m ck : Nat) (ao : Option Addr) : Prop where
  len : us.length = m
  row : w.ownsRow w0.heap.size 30 3 (.slice ak m ck) m (us.flatMap L3.cells)
  ok : ∀ u ∈ us, Sl.ok w0 u.s ∧ u.s.len ≤ 1048576
  apart : ∀ g, Value.ownBlock (.slice ak m ck) = some g → Value.ownBlock (.slice ao 0 0) ≠ some g
theorem SentAt.step {w w' w0 : World} {N m ck n cap : Nat} {most : Int} {ls : List L3} {us : List L3} {ak ao ao' : Option Addr} (h : SentAt w w0 N us ak m ck ao) (hN : NetAt w N most ls ao n cap) (hs : NStep w w' N ao ao') : SentAt w' w0 N us ak m ck ao' :=
  ⟨h.len, own_keep h.row fun g hg hl => hs.block g hl (fun e => by subst e; exact own_ne h.row hN.cell (by decide) hg) (h.apart g hg), h.ok, fun g hg e => by
    rcases hs.row g e with h1 | h1
    · exact h.apart g hg h1
    · have := (h.row.lt g hg).2; omega⟩
theorem SentAt.below {w w' w0 : World} {N m ck : Nat} {us : List L3} {ak ao : Option Addr} (h : SentAt w w0 N us ak m ck ao) (hb : Below w.heap.size w w') : SentAt w' w0 N us ak m ck ao :=
  ⟨h.len, own_keep h.row fun g _ hl => hb.block g hl, h.ok, h.apart⟩
/-- an append to what was sent: the net is as it was -/
theorem sent_snoc {w w' w0 : World} {N m ck n cap ck' : Nat} {most : Int} {ls : List L3} {us : List L3} {ak ao ak' : Option Addr} {u : L3} (h : SentAt w w0 N us ak m ck ao) (hN : NetAt w N most ls ao n cap) (hg : w.grownBy w' (Value.ownBlock (.slice ak m ck)))
    (hrow : w'.ownsRow w0.heap.size 30 3 (.slice ak' (m + 1) ck') (m + 1) (us.flatMap L3.cells ++ u.cells)) (hat : Value.ownBlock (.slice ak' (m + 1) ck') = Value.ownBlock (.slice ak m ck) ∨ Value.ownBlock (.slice ak' (m + 1) ck') = some w.heap.size) (hu : Sl.ok w0 u.s ∧ u.s.len ≤ 1048576) :
    SentAt w' w0 N (us ++ [u]) ak' (m + 1) ck' ao ∧ NetAt w' N most ls ao n cap := by
  have hk : ∀ g, g < w.heap.size → Value.ownBlock (.slice ak m ck) ≠ some g → w'.heap[g]? = w.heap[g]? := fun g hl hn => hg.block g hl (fun e => hn e.symm)
  refine ⟨⟨by rw [List.length_append, h.len]; rfl, by rw [List.flatMap_append]; simpa using hrow, fun v hv => ?_, fun g hgg e => ?_⟩, ⟨(hk N (lt_of_block hN.cell) (own_ne h.row hN.cell (by decide))).trans hN.cell, hN.len, own_keep hN.row fun g hgg hl => hk g hl (fun e => h.apart g e (by rw [own_addr ao 0 0 n cap]; exact hgg)), fun l hl => own_keep (hN.own l hl) fun g hgg hl' => hk g hl' (fun e => own_apart h.row (hN.own l hl) (by decide) g e hgg)⟩⟩
  · rcases List.mem_append.1 hv with hv | hv
    · exact h.ok v hv
    · rw [List.mem_singleton] at hv
      subst hv
      exact hu
  · rcases hat with h1 | h1
    · rw [h1] at hgg
      exact h.apart g hgg e
    · rw [h1] at hgg
      injection hgg with hgg
      rw [own_addr ao 0 0 n cap] at e
      have := (hN.row.lt g e).2
      omega
end Go.Proofs.Ytnjbhjgihcgefaa
