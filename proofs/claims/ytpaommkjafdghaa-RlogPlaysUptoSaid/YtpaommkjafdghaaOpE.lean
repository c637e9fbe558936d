/- The law's steps as they lie in memory; bytes that are written over. -/
import Derived.Test.YtpaommkjafdghaaCut
import Derived.Test.YtpaommkjafdghaaPut
import Derived.Test.YtpaommkjafdghaaRise
namespace Go.Proofs.Ytpaommkjafdghaa
open Go.RowKit

/-- a step -/
structure OpE where
  kd : Int
  n : Int
  near : Bool
  a : Option Addr
  len : Nat
  cap : Nat
  us : List En
def OpE.cells (o : OpE) : List Value := [.int .i64 o.kd, .int .i64 o.n, .bool o.near, .slice o.a o.len o.cap]
/-- its entries can be read -/
structure OpE.ok (w : World) (o : OpE) : Prop where
  row : RowN w o.a 4 o.len (o.us.flatMap En.cells)
  len : o.us.length = o.len
  ok : ∀ u ∈ o.us, Sl.ok w u.s
  lc : o.len ≤ o.cap
  cm : o.cap ≤ maxLen
  nil : o.a = none → o.cap = 0
  rng : -9223372036854775808 ≤ o.n ∧ o.n ≤ 9223372036854775807
theorem OpE.ok.below {w w' : World} {o : OpE} (h : o.ok w) (hb : Below w.heap.size w w') : o.ok w' := ⟨h.row.below hb, h.len, fun u hu => (h.ok u hu).below hb, h.lc, h.cm, h.nil, h.rng⟩
/-- how much there is of it -/
def bulkE (os : List En) : Nat := (os.map fun o => o.s.len + 1).sum
theorem bulkE_cons (o : En) (r : List En) : bulkE (o :: r) = o.s.len + 1 + bulkE r := by simp [bulkE]
theorem bulkE_mem {os : List En} {o : En} (h : o ∈ os) : o.s.len + 1 ≤ bulkE os := by
  induction os with
  | nil => cases h
  | cons x r ih =>
    rw [bulkE_cons]
    rcases List.mem_cons.1 h with rfl | h
    · omega
    · have := ih h; omega
theorem bulkE_len (os : List En) : os.length ≤ bulkE os := by
  induction os with
  | nil => exact Nat.zero_le _
  | cons x r ih => rw [bulkE_cons, List.length_cons]; omega
def bulkO (os : List OpE) : Nat := (os.map fun o => bulkE o.us + 1).sum
theorem bulkO_cons (o : OpE) (r : List OpE) : bulkO (o :: r) = bulkE o.us + 1 + bulkO r := by simp [bulkO]
theorem bulkO_mem {os : List OpE} {o : OpE} (h : o ∈ os) : bulkE o.us + 1 ≤ bulkO os := by
  induction os with
  | nil => cases h
  | cons x r ih =>
    rw [bulkO_cons]
    rcases List.mem_cons.1 h with rfl | h
    · omega
    · have := ih h; omega
theorem drop4o (os : List OpE) : ∀ i, (os.flatMap OpE.cells).drop (i * 4) = (os.drop i).flatMap OpE.cells := by
  induction os with
  | nil => intro i; simp
  | cons x r ih =>
    intro i
    cases i with
    | zero => simp
    | succ i =>
      rw [List.drop_succ_cons, ← ih i, List.flatMap_cons, show (i + 1) * 4 = 4 + i * 4 by omega, ← List.drop_drop]
      congr 1
theorem op_at {w : World} {a : Option Addr} {n : Nat} {os : List OpE} (hr : RowN w a 4 n (os.flatMap OpE.cells)) (hs : os.length = n) (k : Nat) (hk : k < n) (o : OpE) (ho : os[k]? = some o) :
    ∃ b off, a = some ⟨b, off, none⟩ ∧ w.cell? ⟨b, off + k * 4, none⟩ = some (.int .i64 o.kd) ∧ w.cell? ⟨b, off + k * 4 + 1, none⟩ = some (.int .i64 o.n) ∧ w.cell? ⟨b, off + k * 4 + 2, none⟩ = some (.bool o.near) ∧ w.cell? ⟨b, off + k * 4 + 3, none⟩ = some (.slice o.a o.len o.cap) := by
  obtain ⟨b, off, ha, hc⟩ := hr.2 (by omega)
  have hcell : ∀ i u, i < 4 → o.cells[i]? = some u → (os.flatMap OpE.cells)[k * 4 + i]? = some u := fun i u hi hu => by
    have h1 : ((os.flatMap OpE.cells).drop (k * 4))[i]? = some u := by
      rw [drop4o, List.drop_eq_getElem_cons (show k < os.length by omega), List.flatMap_cons, List.getElem?_append_left (by simp [OpE.cells]; omega)]
      have : os[k]'(by omega) = o := (List.getElem?_eq_some_iff.1 ho).2
      rw [this]
      exact hu
    rwa [List.getElem?_drop] at h1
  exact ⟨b, off, ha, hc _ _ (hcell 0 _ (by omega) rfl), by rw [Nat.add_assoc]; exact hc _ _ (hcell 1 _ (by omega) rfl), by rw [Nat.add_assoc]; exact hc _ _ (hcell 2 _ (by omega) rfl), by rw [Nat.add_assoc]; exact hc _ _ (hcell 3 _ (by omega) rfl)⟩

/-- one byte written over leaves a row of bytes -/
theorem own8_put {w : World} {B : Nat} {a : Option Addr} {len cap : Nat} {bs : List UInt8} (h : Own8 w B a len cap bs) (g i : Nat) (x : UInt8) : ∃ bs', Own8 (w.setCell ⟨g, i, none⟩ (.int .u8 ((x.toNat : Nat) : Int))) B a len cap bs' := by
  rcases h.2 with ⟨hv, h0⟩ | ⟨g1, cp, cur, hv, h1, h2, h3, h4, h5, h6⟩
  · exact ⟨bs, h.1, .inl ⟨hv, h0⟩⟩
  · by_cases hg : g1 = g
    · subst hg
      refine ⟨bs.set i x, ?_, .inr ⟨g1, cp, cur.setIfInBounds i (.int .u8 ((x.toNat : Nat) : Int)), hv, h1, set_block h2 _, h3, h4, by rw [Array.size_setIfInBounds]; exact h5, ?_⟩⟩
      · have := h.1
        rw [cells8_length] at this ⊢
        rw [List.length_set]
        exact this
      · rw [Array.toList_setIfInBounds, List.take_set, h6]
        unfold cells8
        rw [List.map_set]
    · exact ⟨bs, own_keep h fun k hk hl => Below.heap_setCell w _ _ k (by rw [hv] at hk; simp [Value.ownBlock] at hk; simp; omega)⟩

/-- entries put to the law's log -/
theorem EnAt.of_row {w w' : World} {base N : Nat} {ix tm : Int} {c : Cf} {es us ps : List En} {ae ao : Option Addr} {n cap cp B : Nat} (h : LogAt w base N ix tm c es ae n cap) (hrow : w'.ownsRow w.heap.size 32 4 (.slice ao ps.length cp) ps.length (ps.flatMap En.cells))
    (hok : ∀ u ∈ us, Sl.ok w' u.s ∧ SlP (Off N ae) u.s) (hp : ∀ v ∈ ps, ∃ u ∈ us, v.s = u.s) (hB : ps.length = B) : EnAt w' (Off N ae) ps ao B := by
  subst hB
  refine ⟨rfl, RowN.of_own hrow, fun v hv => ?_, fun b off e hn => ?_⟩
  · obtain ⟨u, hu, he⟩ := hp v hv
    rw [he]
    exact hok u hu
  · subst e
    have hb := (hrow.lt b rfl).1
    exact ⟨by have := lt_of_block h.cell; omega, fun e => by have := (h.on (.inr (.inr (.inr (.inl e))))).2; omega⟩
end Go.Proofs.Ytpaommkjafdghaa
