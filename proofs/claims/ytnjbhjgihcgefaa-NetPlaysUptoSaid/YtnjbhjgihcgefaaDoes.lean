/- The law's does: an op of a net. -/
import Derived.Test.YtnjbhjgihcgefaaMore
namespace Go.Proofs.Ytnjbhjgihcgefaa
open Go.RowKit

abbrev Says := Int × Int × List UInt8
def zSays : Says := (0, 0, [])
/-- what an op makes of what is under way; was there one; the letter that it tells -/
def netStep (most : Int) (xs : List Says) (kind i k : Int) (l : Says) : List Says × Bool × Says :=
  if kind = 1 then (if (xs.length : Int) = most then (xs, false, zSays) else (xs ++ [l], true, zSays))
  else if ¬ (0 ≤ i ∧ i < (xs.length : Int)) then (xs, false, zSays)
  else if kind = 2 then (xs.eraseIdx i.toNat, true, xs.getD i.toNat zSays)
  else if kind = 3 then (xs.eraseIdx i.toNat, true, zSays)
  else if kind = 4 then (if (xs.length : Int) = most then (xs, false, zSays) else (xs ++ [xs.getD i.toNat zSays], true, zSays))
  else if kind = 5 then (if ¬ (0 ≤ k ∧ k < (xs.length : Int)) then (xs, false, zSays) else ((xs.set i.toNat (xs.getD k.toNat zSays)).set k.toNat (xs.getD i.toNat zSays), true, zSays))
  else if (xs.getD i.toNat zSays).2.2 = [] then (xs, false, zSays)
  else (xs.set i.toNat ((xs.getD i.toNat zSays).1, (xs.getD i.toNat zSays).2.1, (xs.getD i.toNat zSays).2.2.dropLast), true, zSays)

def DoesPost (w : World) (N : Nat) (most : Int) (ao : Option Addr) (r : List Says × Bool × Says) (e : Ending) (w' : World) : Prop :=
  ∃ ls' ao' n' cap' a len c, e = .returned (.tuple #[.agg #[.int .i64 r.2.2.1, .int .i64 r.2.2.2.1, .slice a len c], .bool r.2.1]) ∧ Row8 w' a len r.2.2.2.2 ∧ len ≤ maxLen ∧ ls'.map L3.says = r.1 ∧ NetAt w' N most ls' ao' n' cap' ∧ NStep w w' N ao ao'
theorem DoesPost.mk {w w' : World} {N n' cap' len c : Nat} {most f t : Int} {ao ao' a : Option Addr} {r : List Says × Bool × Says} {e : Ending} {ls' : List L3} {xs : List Says} {ok : Bool} {bs : List UInt8} (hr : r = (xs, ok, f, t, bs)) (he : e = .returned (.tuple #[.agg #[.int .i64 f, .int .i64 t, .slice a len c], .bool ok]))
    (hrow : Row8 w' a len bs) (hl : len ≤ maxLen) (hs : ls'.map L3.says = xs) (hN : NetAt w' N most ls' ao' n' cap') (hst : NStep w w' N ao ao') : DoesPost w N most ao r e w' := by
  subst hr
  exact ⟨ls', ao', n', cap', a, len, c, he, hrow, hl, hs, hN, hst⟩

/-- behind the call: the letter is laid into its variable -/
theorem does_end {w X w2 : World} {N n cap n' cap' : Nat} {most : Int} {ls ls' : List L3} {ao ao' : Option Addr} (h : NetAt w N most ls ao n cap) (hX : Below w.heap.size w X) (hXs : X.heap.size = w.heap.size + 2) (hs : NStep X w2 N ao ao') (h2 : NetAt w2 N most ls' ao' n' cap')
    {c0 c1 c2 : Value} (hB : X.heap[w.heap.size + 1]? = some (.cells #[c0, c1, c2] 30 (0, 0))) (v0 v1 v2 : Value) :
    NetAt (((w2.setCell ⟨w.heap.size + 1, 0, none⟩ v0).setCell ⟨w.heap.size + 1, 1, none⟩ v1).setCell ⟨w.heap.size + 1, 2, none⟩ v2) N most ls' ao' n' cap' ∧
    NStep w (((w2.setCell ⟨w.heap.size + 1, 0, none⟩ v0).setCell ⟨w.heap.size + 1, 1, none⟩ v1).setCell ⟨w.heap.size + 1, 2, none⟩ v2) N ao ao' ∧
    (((w2.setCell ⟨w.heap.size + 1, 0, none⟩ v0).setCell ⟨w.heap.size + 1, 1, none⟩ v1).setCell ⟨w.heap.size + 1, 2, none⟩ v2).heap[w.heap.size + 1]? = some (.cells #[v0, v1, v2] 30 (0, 0)) ∧
    ∀ (a : Option Addr) (len c : Nat) (bs : List UInt8), Own8 w2 (N + 1) a len c bs → Own8 (((w2.setCell ⟨w.heap.size + 1, 0, none⟩ v0).setCell ⟨w.heap.size + 1, 1, none⟩ v1).setCell ⟨w.heap.size + 1, 2, none⟩ v2) (N + 1) a len c bs := by
  have hNl := lt_of_block h.cell
  have hz2 := hs.size
  have hrl := h.row.lt
  have hB2 : w2.heap[w.heap.size + 1]? = some (.cells #[c0, c1, c2] 30 (0, 0)) := (hs.block _ (by omega) (by omega) (fun e => by rw [own_addr ao 0 0 n cap] at e; have := (hrl _ e).2; omega)).trans hB
  have ht := touch_three [w.heap.size + 1] w2 (w.heap.size + 1) (by simp) v0 v1 v2
  have hrow : ∀ g, Value.ownBlock (.slice ao' n' cap') = some g → g ≠ w.heap.size + 1 := fun g hg e => by
    rw [own_addr ao' n' cap' 0 0] at hg
    rcases hs.row g hg with h1 | h1
    · rw [own_addr ao 0 0 n cap] at h1
      have := (hrl _ h1).2
      omega
    · omega
  have k8 : ∀ (a : Option Addr) (len c : Nat) (bs : List UInt8), Own8 w2 (N + 1) a len c bs → Own8 (((w2.setCell ⟨w.heap.size + 1, 0, none⟩ v0).setCell ⟨w.heap.size + 1, 1, none⟩ v1).setCell ⟨w.heap.size + 1, 2, none⟩ v2) (N + 1) a len c bs := fun a len c bs ho => own_keep ho fun g hg hl => ht.block g hl (fun hi => by
    simp at hi
    subst hi
    rcases ho.2 with ⟨e, _⟩ | ⟨g, cp, cur, e, _, hgg, _⟩
    · rw [e] at hg; cases hg
    · rw [e] at hg
      injection hg with hg
      simp only at hg
      subst hg
      rw [hB2] at hgg
      injection hgg with hgg
      injection hgg with _ hee _
      cases hee)
  refine ⟨⟨(ht.block N (by omega) (by simp; omega)).trans h2.cell, h2.len, own_keep h2.row fun g hg hl => ht.block g hl (fun hi => hrow g hg (by simpa using hi)), fun u hu => k8 _ _ _ _ (h2.own u hu)⟩,
    ⟨ht.os.trans (hs.os.trans hX.os), ht.tape.trans (hs.tape.trans hX.tape), ht.output.trans (hs.output.trans hX.output), by have := ht.size; omega, fun k hk hn hx => (ht.block k (by omega) (by simp; omega)).trans ((hs.block k (by omega) hn hx).trans (hX.block k hk)), fun g hg => ?_⟩, ?_, k8⟩
  · rcases hs.row g hg with h1 | h1
    · exact .inl h1
    · exact .inr (by omega)
  · exact set_block (i := 2) (set_block (i := 1) (set_block (i := 0) hB2 v0) v1) v2

/-! ### Each function of the net, in what is said -/
def OpPost (w : World) (N : Nat) (most : Int) (ao : Option Addr) (v : Value) (xs : List Says) (e : Ending) (w' : World) : Prop :=
  e = .returned v ∧ ∃ ls' ao' n' cap', ls'.map L3.says = xs ∧ NetAt w' N most ls' ao' n' cap' ∧ NStep w w' N ao ao'
theorem OpPost.same {w w' : World} {N n cap : Nat} {most : Int} {ls : List L3} {ao : Option Addr} {v : Value} {e : Ending} (h : NetAt w N most ls ao n cap) (he : e = .returned v) (hb : Below w.heap.size w w') : OpPost w N most ao v (ls.map L3.says) e w' :=
  ⟨he, ls, ao, n, cap, rfl, h.below hb, NStep.of_below hb⟩
theorem erase_says (ls : List L3) : ∀ i, (ls.eraseIdx i).map L3.says = (ls.map L3.says).eraseIdx i := by
  induction ls with
  | nil => intro i; rfl
  | cons l r ih =>
    intro i
    cases i with
    | zero => rfl
    | succ i => rw [List.eraseIdx_cons_succ, List.map_cons, ih, List.map_cons, List.eraseIdx_cons_succ]
theorem getD_says {ls : List L3} {i : Nat} {l : L3} (h : ls[i]? = some l) : (ls.map L3.says).getD i zSays = l.says := by
  rw [List.getD_eq_getElem?_getD, List.getElem?_map, h]; rfl

theorem drop_post (N : Nat) (most : Int) (ls : List L3) (ao : Option Addr) (n cap : Nat) (i k : Int) (l : Says) (w : World) (h : NetAt w N most ls ao n cap) (hn : n ≤ 1000000000) :
    Calls Try.prog 12 #[.pointer (some ⟨N, 0, none⟩), .int .i64 i] w (OpPost w N most ao (.bool (netStep most (ls.map L3.says) 3 i k l).2.1) (netStep most (ls.map L3.says) 3 i k l).1) := by
  have hl : ((ls.map L3.says).length : Int) = (n : Int) := by rw [List.length_map, h.len]
  by_cases hi : 0 ≤ i ∧ i < (n : Int)
  · obtain ⟨j, rfl⟩ : ∃ j : Nat, i = (j : Int) := ⟨i.toNat, by omega⟩
    obtain ⟨x, hx⟩ : ∃ x, ls[j]? = some x := ⟨_, List.getElem?_eq_getElem (by rw [h.len]; omega)⟩
    have e : netStep most (ls.map L3.says) 3 (j : Int) k l = ((ls.map L3.says).eraseIdx j, true, zSays) := by
      rw [netStep, if_neg (by decide), if_neg (by rw [hl]; exact fun h => h hi), if_neg (by decide), if_pos rfl]; rfl
    rw [e]
    exact (drop_ok N most ls ao n cap j x w h (by omega) hx hn).mono fun _ _ ⟨he, hN, hs⟩ => ⟨he, _, _, _, _, erase_says ls j, hN, hs⟩
  · have e : netStep most (ls.map L3.says) 3 i k l = (ls.map L3.says, false, zSays) := by rw [netStep, if_neg (by decide), if_pos (by rw [hl]; exact hi)]
    rw [e]
    exact (drop_no N most ls ao n cap i w h hi).mono fun _ _ ⟨he, hb⟩ => OpPost.same h he hb

theorem double_post (N : Nat) (most : Int) (ls : List L3) (ao : Option Addr) (n cap : Nat) (i k : Int) (l : Says) (w : World) (h : NetAt w N most ls ao n cap) (hn : n ≤ 1000000000) (hbig : ∀ x ∈ ls, x.s.len ≤ 140737488355328) :
    Calls Try.prog 19 #[.pointer (some ⟨N, 0, none⟩), .int .i64 i] w (OpPost w N most ao (.bool (netStep most (ls.map L3.says) 4 i k l).2.1) (netStep most (ls.map L3.says) 4 i k l).1) := by
  have hl : ((ls.map L3.says).length : Int) = (n : Int) := by rw [List.length_map, h.len]
  by_cases hi : 0 ≤ i ∧ i < (n : Int)
  · obtain ⟨j, rfl⟩ : ∃ j : Nat, i = (j : Int) := ⟨i.toNat, by omega⟩
    obtain ⟨x, hx⟩ : ∃ x, ls[j]? = some x := ⟨_, List.getElem?_eq_getElem (by rw [h.len]; omega)⟩
    by_cases hf : (n : Int) = most
    · have e : netStep most (ls.map L3.says) 4 (j : Int) k l = (ls.map L3.says, false, zSays) := by
        rw [netStep, if_neg (by decide), if_neg (by rw [hl]; exact fun h => h hi), if_neg (by decide), if_neg (by decide), if_pos rfl, if_pos (by rw [hl]; exact hf)]
      rw [e]
      exact (double_full N most ls ao n cap j w h (by omega) hf).mono fun _ _ ⟨he, hb⟩ => OpPost.same h he hb
    · have e : netStep most (ls.map L3.says) 4 (j : Int) k l = (ls.map L3.says ++ [x.says], true, zSays) := by
        rw [netStep, if_neg (by decide), if_neg (by rw [hl]; exact fun h => h hi), if_neg (by decide), if_neg (by decide), if_pos rfl, if_neg (by rw [hl]; exact hf), Int.toNat_natCast, getD_says hx]
      rw [e]
      exact (double_ok N most ls ao n cap j x w h (by omega) hx hf hn (hbig x (List.mem_of_getElem? hx))).mono fun _ _ ⟨he, s, ao', cap', hb, _, hN, hs⟩ => ⟨he, _, _, _, _, by rw [List.map_append]; simp [L3.says, hb], hN, hs⟩
  · have e : netStep most (ls.map L3.says) 4 i k l = (ls.map L3.says, false, zSays) := by rw [netStep, if_neg (by decide), if_pos (by rw [hl]; exact hi)]
    rw [e]
    exact (double_no N most ls ao n cap i w h hi).mono fun _ _ ⟨he, hb⟩ => OpPost.same h he (by subst hb; exact Below.refl _ _)

theorem swap_post (N : Nat) (most : Int) (ls : List L3) (ao : Option Addr) (n cap : Nat) (i k : Int) (l : Says) (w : World) (h : NetAt w N most ls ao n cap) :
    Calls Try.prog 20 #[.pointer (some ⟨N, 0, none⟩), .int .i64 i, .int .i64 k] w (OpPost w N most ao (.bool (netStep most (ls.map L3.says) 5 i k l).2.1) (netStep most (ls.map L3.says) 5 i k l).1) := by
  have hl : ((ls.map L3.says).length : Int) = (n : Int) := by rw [List.length_map, h.len]
  by_cases hi : 0 ≤ i ∧ i < (n : Int)
  · by_cases hk : 0 ≤ k ∧ k < (n : Int)
    · obtain ⟨j, rfl⟩ : ∃ j : Nat, i = (j : Int) := ⟨i.toNat, by omega⟩
      obtain ⟨m, rfl⟩ : ∃ m : Nat, k = (m : Int) := ⟨k.toNat, by omega⟩
      obtain ⟨x, hx⟩ : ∃ x, ls[j]? = some x := ⟨_, List.getElem?_eq_getElem (by rw [h.len]; omega)⟩
      obtain ⟨y, hy⟩ : ∃ y, ls[m]? = some y := ⟨_, List.getElem?_eq_getElem (by rw [h.len]; omega)⟩
      have e : netStep most (ls.map L3.says) 5 (j : Int) (m : Int) l = (((ls.map L3.says).set j y.says).set m x.says, true, zSays) := by
        rw [netStep, if_neg (by decide), if_neg (by rw [hl]; exact fun h => h hi), if_neg (by decide), if_neg (by decide), if_neg (by decide), if_pos rfl, if_neg (by rw [hl]; exact fun h => h hk), Int.toNat_natCast, Int.toNat_natCast, getD_says hx, getD_says hy]
      rw [e]
      have hsw : ∀ x y : L3, (swapL ls j m x y).map L3.says = ((ls.map L3.says).set j y.says).set m x.says := fun x y => by rw [swapL, List.map_set, List.map_set]
      by_cases hjm : j = m
      · subst hjm
        rw [hx] at hy
        injection hy with hy
        subst hy
        exact (swap_eq N most ls ao n cap j x w h (by omega) hx).mono fun _ _ ⟨he, hN, hs⟩ => ⟨he, _, _, _, _, hsw x x, hN, hs⟩
      · exact (swap_ne N most ls ao n cap j m x y w h (by omega) (by omega) hjm hx hy).mono fun _ _ ⟨he, hN, hs⟩ => ⟨he, _, _, _, _, hsw x y, hN, hs⟩
    · have e : netStep most (ls.map L3.says) 5 i k l = (ls.map L3.says, false, zSays) := by rw [netStep, if_neg (by decide), if_neg (by rw [hl]; exact fun h => h hi), if_neg (by decide), if_neg (by decide), if_neg (by decide), if_pos rfl, if_pos (by rw [hl]; exact hk)]
      rw [e]
      exact (swap_no N most ls ao n cap i k w h (fun h' => hk h'.2)).mono fun _ _ ⟨he, hb⟩ => OpPost.same h he (by subst hb; exact Below.refl _ _)
  · have e : netStep most (ls.map L3.says) 5 i k l = (ls.map L3.says, false, zSays) := by rw [netStep, if_neg (by decide), if_pos (by rw [hl]; exact hi)]
    rw [e]
    exact (swap_no N most ls ao n cap i k w h (fun h' => hi h'.1)).mono fun _ _ ⟨he, hb⟩ => OpPost.same h he (by subst hb; exact Below.refl _ _)

theorem short_post (N : Nat) (most : Int) (ls : List L3) (ao : Option Addr) (n cap : Nat) (i k : Int) (l : Says) (w : World) (h : NetAt w N most ls ao n cap) :
    Calls Try.prog 25 #[.pointer (some ⟨N, 0, none⟩), .int .i64 i] w (OpPost w N most ao (.bool (netStep most (ls.map L3.says) 6 i k l).2.1) (netStep most (ls.map L3.says) 6 i k l).1) := by
  have hl : ((ls.map L3.says).length : Int) = (n : Int) := by rw [List.length_map, h.len]
  by_cases hi : 0 ≤ i ∧ i < (n : Int)
  · obtain ⟨j, rfl⟩ : ∃ j : Nat, i = (j : Int) := ⟨i.toNat, by omega⟩
    obtain ⟨x, hx⟩ : ∃ x, ls[j]? = some x := ⟨_, List.getElem?_eq_getElem (by rw [h.len]; omega)⟩
    have hxl : x.s.bs.length = x.s.len := (h.own x (List.mem_of_getElem? hx)).length
    by_cases h0 : x.s.len = 0
    · have e : netStep most (ls.map L3.says) 6 (j : Int) k l = (ls.map L3.says, false, zSays) := by
        rw [netStep, if_neg (by decide), if_neg (by rw [hl]; exact fun h => h hi), if_neg (by decide), if_neg (by decide), if_neg (by decide), if_neg (by decide), Int.toNat_natCast, getD_says hx, if_pos (List.eq_nil_of_length_eq_zero (by rw [L3.says]; simp only; omega))]
      rw [e]
      exact (short_empty N most ls ao n cap j x w h (by omega) hx h0).mono fun _ _ ⟨he, hb⟩ => OpPost.same h he (by subst hb; exact Below.refl _ _)
    · have e : netStep most (ls.map L3.says) 6 (j : Int) k l = ((ls.map L3.says).set j (x.f, x.t, x.s.bs.dropLast), true, zSays) := by
        rw [netStep, if_neg (by decide), if_neg (by rw [hl]; exact fun h => h hi), if_neg (by decide), if_neg (by decide), if_neg (by decide), if_neg (by decide), Int.toNat_natCast, getD_says hx, if_neg (fun e => by rw [L3.says] at e; simp only at e; rw [e] at hxl; exact h0 hxl.symm)]
        rfl
      rw [e]
      exact (short_ok N most ls ao n cap j x w h (by omega) hx (by omega)).mono fun _ _ ⟨he, hN, hs⟩ => ⟨he, _, _, _, _, by rw [List.map_set]; rfl, hN, hs⟩
  · have e : netStep most (ls.map L3.says) 6 i k l = (ls.map L3.says, false, zSays) := by rw [netStep, if_neg (by decide), if_pos (by rw [hl]; exact hi)]
    rw [e]
    exact (short_out N most ls ao n cap i w h hi).mono fun _ _ ⟨he, hb⟩ => OpPost.same h he (by subst hb; exact Below.refl _ _)

theorem send_post (N : Nat) (most : Int) (ls : List L3) (ao : Option Addr) (n cap : Nat) (i k f t : Int) (a : Option Addr) (len c : Nat) (bs : List UInt8) (w : World) (h : NetAt w N most ls ao n cap) (hn : n ≤ 1000000000) (hr : Row8 w a len bs) (hnil : a = none → len = 0 ∧ c = 0) (hb : len ≤ 140737488355328) :
    Calls Try.prog 8 #[.pointer (some ⟨N, 0, none⟩), .agg #[.int .i64 f, .int .i64 t, .slice a len c]] w (OpPost w N most ao (.int .i64 (if (netStep most (ls.map L3.says) 1 i k (f, t, bs)).2.1 = true then 0 else 3)) (netStep most (ls.map L3.says) 1 i k (f, t, bs)).1) := by
  have hl : ((ls.map L3.says).length : Int) = (n : Int) := by rw [List.length_map, h.len]
  by_cases hf : (n : Int) = most
  · have e : netStep most (ls.map L3.says) 1 i k (f, t, bs) = (ls.map L3.says, false, zSays) := by rw [netStep, if_pos rfl, if_pos (by rw [hl]; exact hf)]
    rw [e]
    exact (send_full N most ls ao n cap _ w h hf ⟨_, _, _, _, _, rfl⟩).mono fun _ _ ⟨he, hb⟩ => OpPost.same h he hb
  · have e : netStep most (ls.map L3.says) 1 i k (f, t, bs) = (ls.map L3.says ++ [(f, t, bs)], true, zSays) := by rw [netStep, if_pos rfl, if_neg (by rw [hl]; exact hf)]
    rw [e]
    exact (send_any N most ls ao n cap f t a len c bs w h hf hn hr hnil hb).mono fun _ _ ⟨he, s, ao', cap', hb, _, hN, hs⟩ => ⟨he, _, _, _, _, by rw [List.map_append]; simp [L3.says, hb], hN, hs⟩

/-- Take, in what is said -/
def TakePost (w : World) (N : Nat) (most : Int) (ao : Option Addr) (r : List Says × Bool × Says) (e : Ending) (w' : World) : Prop :=
  ∃ ls' ao' n' cap' a len c, e = .returned (.tuple #[.agg #[.int .i64 r.2.2.1, .int .i64 r.2.2.2.1, .slice a len c], .bool r.2.1]) ∧ Own8 w' (N + 1) a len c r.2.2.2.2 ∧ ls'.map L3.says = r.1 ∧ NetAt w' N most ls' ao' n' cap' ∧ NStep w w' N ao ao'
theorem take_post (N : Nat) (most : Int) (ls : List L3) (ao : Option Addr) (n cap : Nat) (i k : Int) (l : Says) (w : World) (h : NetAt w N most ls ao n cap) (hn : n ≤ 1000000000) :
    Calls Try.prog 9 #[.pointer (some ⟨N, 0, none⟩), .int .i64 i] w (TakePost w N most ao (netStep most (ls.map L3.says) 2 i k l)) := by
  have hl : ((ls.map L3.says).length : Int) = (n : Int) := by rw [List.length_map, h.len]
  by_cases hi : 0 ≤ i ∧ i < (n : Int)
  · obtain ⟨j, rfl⟩ : ∃ j : Nat, i = (j : Int) := ⟨i.toNat, by omega⟩
    obtain ⟨x, hx⟩ : ∃ x, ls[j]? = some x := ⟨_, List.getElem?_eq_getElem (by rw [h.len]; omega)⟩
    have e : netStep most (ls.map L3.says) 2 (j : Int) k l = ((ls.map L3.says).eraseIdx j, true, x.says) := by
      rw [netStep, if_neg (by decide), if_neg (by rw [hl]; exact fun h => h hi), if_pos rfl, Int.toNat_natCast, getD_says hx]
    rw [e]
    exact (take_ok N most ls ao n cap j x w h (by omega) hx hn).mono fun _ _ ⟨he, hN, hs, ho⟩ => ⟨_, _, _, _, _, _, _, he, ho x (List.mem_of_getElem? hx), erase_says ls j, hN, hs⟩
  · have e : netStep most (ls.map L3.says) 2 i k l = (ls.map L3.says, false, zSays) := by rw [netStep, if_neg (by decide), if_pos (by rw [hl]; exact hi)]
    rw [e]
    exact (take_no N most ls ao n cap i w h hi).mono fun _ _ ⟨he, hb⟩ => ⟨ls, ao, n, cap, none, 0, 0, he, Own8.nil _ _, rfl, h.below hb, NStep.of_below hb⟩
end Go.Proofs.Ytnjbhjgihcgefaa
