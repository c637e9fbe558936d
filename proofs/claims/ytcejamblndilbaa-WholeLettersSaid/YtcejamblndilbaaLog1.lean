/- A log in memory, and its small functions. -/
import Derived.Test.YtcejamblndilbaaLow
namespace Go.Proofs.Ytcejamblndilbaa
open Go.RowKit

/-- an entry -/
structure En where
  ix : Int
  tm : Int
  kd : Int
  s : Sl
def En.cells (e : En) : List Value := [.int .i64 e.ix, .int .i64 e.tm, .int .i64 e.kd, e.s.val]
/-- numbers -/
structure Is where
  a : Option Addr
  len : Nat
  cap : Nat
  zs : List Int
def cellsZ (zs : List Int) : List Value := zs.map fun z => .int .i64 z
def OwnZ (w : World) (base : Nat) (s : Is) : Prop := w.ownsRow base 3 1 (.slice s.a s.len s.cap) s.len (cellsZ s.zs)
/-- a configuration -/
structure Cf where
  v : Is
  l : Is

/-- a log in block N: what it holds lies in memory of its own -/
structure LogAt (w : World) (base N : Nat) (ix tm : Int) (c : Cf) (es : List En) (ae : Option Addr) (n cap : Nat) : Prop where
  lo : base ≤ N
  cell : w.heap[N]? = some (.cells #[.int .i64 ix, .int .i64 tm, .slice c.v.a c.v.len c.v.cap, .slice c.l.a c.l.len c.l.cap, .slice ae n cap] 103 (0, 0))
  vo : OwnZ w base c.v
  le : OwnZ w base c.l
  len : es.length = n
  row : w.ownsRow base 41 4 (.slice ae n cap) n (es.flatMap En.cells)
  own : ∀ e ∈ es, Own8 w base e.s.a e.s.len e.s.cap e.s.bs
theorem LogAt.keep {w w' : World} {base N : Nat} {ix tm : Int} {c : Cf} {es : List En} {ae : Option Addr} {n cap : Nat} (h : LogAt w base N ix tm c es ae n cap) (hk : ∀ g, base ≤ g → g < w.heap.size → w'.heap[g]? = w.heap[g]?) : LogAt w' base N ix tm c es ae n cap :=
  ⟨h.lo, (hk N h.lo (lt_of_block h.cell)).trans h.cell, own_keep h.vo fun g hg hl => hk g (h.vo.lt g hg).1 hl, own_keep h.le fun g hg hl => hk g (h.le.lt g hg).1 hl, h.len, own_keep h.row fun g hg hl => hk g (h.row.lt g hg).1 hl, fun v hv => own_keep (h.own v hv) fun g hg hl => hk g ((h.own v hv).lt g hg).1 hl⟩
theorem LogAt.below {w w' : World} {base N : Nat} {ix tm : Int} {c : Cf} {es : List En} {ae : Option Addr} {n cap : Nat} (h : LogAt w base N ix tm c es ae n cap) (hb : Below w.heap.size w w') : LogAt w' base N ix tm c es ae n cap := h.keep fun g _ hl => hb.block g hl

theorem drop4 (es : List En) : ∀ i, (es.flatMap En.cells).drop (i * 4) = (es.drop i).flatMap En.cells := by
  induction es with
  | nil => intro i; simp
  | cons x r ih =>
    intro i
    cases i with
    | zero => simp
    | succ i =>
      rw [List.drop_succ_cons, ← ih i, List.flatMap_cons, show (i + 1) * 4 = 4 + i * 4 by omega, ← List.drop_drop]
      congr 1
theorem en_at {w : World} {a : Option Addr} {n : Nat} {es : List En} (hr : RowN w a 4 n (es.flatMap En.cells)) (hs : es.length = n) (k : Nat) (hk : k < n) (e : En) (he : es[k]? = some e) :
    ∃ b off, a = some ⟨b, off, none⟩ ∧ w.cell? ⟨b, off + k * 4, none⟩ = some (.int .i64 e.ix) ∧ w.cell? ⟨b, off + k * 4 + 1, none⟩ = some (.int .i64 e.tm) ∧ w.cell? ⟨b, off + k * 4 + 2, none⟩ = some (.int .i64 e.kd) ∧ w.cell? ⟨b, off + k * 4 + 3, none⟩ = some (.slice e.s.a e.s.len e.s.cap) := by
  obtain ⟨b, off, ha, hc⟩ := hr.2 (by omega)
  have hcell : ∀ i u, i < 4 → e.cells[i]? = some u → (es.flatMap En.cells)[k * 4 + i]? = some u := fun i u hi hu => by
    have h1 : ((es.flatMap En.cells).drop (k * 4))[i]? = some u := by
      rw [drop4, List.drop_eq_getElem_cons (show k < es.length by omega), List.flatMap_cons, List.getElem?_append_left (by simp [En.cells]; omega)]
      have : es[k]'(by omega) = e := (List.getElem?_eq_some_iff.1 he).2
      rw [this]
      exact hu
    rwa [List.getElem?_drop] at h1
  exact ⟨b, off, ha, hc _ _ (hcell 0 _ (by omega) rfl), by rw [Nat.add_assoc]; exact hc _ _ (hcell 1 _ (by omega) rfl), by rw [Nat.add_assoc]; exact hc _ _ (hcell 2 _ (by omega) rfl), by rw [Nat.add_assoc]; exact hc _ _ (hcell 3 _ (by omega) rfl)⟩
theorem five_cells {w : World} {B : Nat} {T : TypeId} {c0 c1 c2 c3 c4 : Value} (h : w.heap[B]? = some (.cells #[c0, c1, c2, c3, c4] T (0, 0))) :
    (w.cell? ⟨B, 0, none⟩ = some c0 ∧ w.cell? ⟨B, 1, none⟩ = some c1 ∧ w.cell? ⟨B, 2, none⟩ = some c2 ∧ w.cell? ⟨B, 3, none⟩ = some c3 ∧ w.cell? ⟨B, 4, none⟩ = some c4) ∧
    (w.frozen? ⟨B, 0, none⟩ = false ∧ w.frozen? ⟨B, 1, none⟩ = false ∧ w.frozen? ⟨B, 2, none⟩ = false ∧ w.frozen? ⟨B, 3, none⟩ = false ∧ w.frozen? ⟨B, 4, none⟩ = false) := by
  refine ⟨⟨?_, ?_, ?_, ?_, ?_⟩, ?_, ?_, ?_, ?_, ?_⟩ <;> simp [World.cell?, World.frozen?, h]

theorem below_drew {w a : World} (h : Below w.heap.size w a) : Below w.heap.size w a.drew := h.drew

/-- the last entry's index and term -/
def lastOf (ix tm : Int) (es : List En) : Int × Int := match es.getLast? with
  | none => (ix, tm)
  | some e => (e.ix, e.tm)

set_option maxRecDepth 100000 in
set_option maxHeartbeats 3200000 in
theorem last_any (base N : Nat) (ix tm : Int) (c : Cf) (es : List En) (ae : Option Addr) (n cap : Nat) (w : World) (h : LogAt w base N ix tm c es ae n cap) (hn : n ≤ 2000000000000) :
    Calls Try.prog 21 #[.pointer (some ⟨N, 0, none⟩)] w (RetBox w (.tuple #[.int .i64 (lastOf ix tm es).1, .int .i64 (lastOf ix tm es).2])) := by
  obtain ⟨⟨c0, c1, c2, c3, c4⟩, _⟩ := five_cells h.cell
  have hlt := lt_of_block h.cell
  cases n with
  | zero =>
    have he : es = [] := List.eq_nil_of_length_eq_zero h.len
    subst he
    clear h
    go_enter Try.func21, Try.ntmps21
    go_wp2_with fail
    go_quiet (fail)
    go_wp2_with fail
    go_ret2
    exact ⟨rfl, below_drewN (Below.refl _ _) _⟩
  | succ m =>
    obtain ⟨e, he⟩ : ∃ e, es[m]? = some e := ⟨_, List.getElem?_eq_getElem (by rw [h.len]; omega)⟩
    have hl : es.getLast? = some e := by rw [List.getLast?_eq_getElem?, h.len]; exact he
    obtain ⟨b, off, rfl, e0, e1, e2, e3⟩ := en_at (RowN.of_own h.row) h.len m (by omega) e he
    have hw : IntKind.i64.wrap (((m + 1 : Nat) : Int) - 1) = (m : Int) := by rw [IntKind.wrap_i64] <;> omega
    have hw2 : IntKind.i64.wrap (m : Int) = (m : Int) := by rw [IntKind.wrap_i64] <;> omega
    have hne : (((m + 1 : Nat) : Int) == 0) = false := by simp; omega
    have hi : (m : Int) < ((m + 1 : Nat) : Int) := by omega
    have hi2 : (m : Int) < (m : Int) + 1 := by omega
    have hi3 : (0 : Int) ≤ (m : Int) := by omega
    have hlo : lastOf ix tm es = (e.ix, e.tm) := by rw [lastOf, hl]
    rw [hlo]
    clear h hl hlo he
    go_enter Try.func21, Try.ntmps21
    go_wp2_with fail
    go_region_held3 (fun w' => w'.cell? ⟨N, 4, none⟩ = some (.slice (some ⟨b, off, none⟩) (m + 1) cap) ∧ w'.cell? ⟨b, off + m * 4, none⟩ = some (.int .i64 e.ix) ∧ w'.cell? ⟨b, off + m * 4 + 1, none⟩ = some (.int .i64 e.tm) ∧ w'.cell? ⟨b, off + m * 4 + 2, none⟩ = some (.int .i64 e.kd) ∧ w'.cell? ⟨b, off + m * 4 + 3, none⟩ = some (.slice e.s.a e.s.len e.s.cap)) (first | exact ⟨c4, e0, e1, e2, e3⟩ | go_keep) (first | fail)
    all_goals go_wp2_with fail
    all_goals go_quiet (fail)
    all_goals go_wp2_with fail
    all_goals go_ret2
    all_goals exact ⟨rfl, below_drewN (below_drew (below_alloc (Below.refl _ _) _)) _⟩
end Go.Proofs.Ytcejamblndilbaa
