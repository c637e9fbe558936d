/- Messages: what a kind names, numbers, entries. -/
import Derived.Test.YtcejamblndilbaaPk3
import Derived.Test.YtcejamblndilbaaLog1
import Derived.BigQuiet
namespace Go.Proofs.Ytcejamblndilbaa
open Go.RowKit

/-- what a kind names -/
structure Pt where
  index : Bool
  logTerm : Bool
  commit : Bool
  ok : Bool
  entries : Bool
  off : Bool
  data : Bool
  last : Bool
  conf : Bool
def Pt.cs (p : Pt) : Array Value := #[.bool p.index, .bool p.logTerm, .bool p.commit, .bool p.ok, .bool p.entries, .bool p.off, .bool p.data, .bool p.last, .bool p.conf]
def namesOf (k : Int) : Pt × Bool :=
  if k = 1 ∨ k = 3 then (⟨true, true, false, false, false, false, false, false, false⟩, true)
  else if k = 2 ∨ k = 4 then (⟨false, false, false, true, false, false, false, false, false⟩, true)
  else if k = 5 then (⟨true, true, true, false, true, false, false, false, false⟩, true)
  else if k = 6 then (⟨true, false, false, true, false, false, false, false, false⟩, true)
  else if k = 7 then (⟨true, true, false, false, false, true, true, true, true⟩, true)
  else if k = 8 then (⟨true, false, false, false, false, true, false, true, false⟩, true)
  else (⟨false, false, false, false, false, false, false, false, false⟩, false)
theorem load_parts {w : World} {B : Nat} {c0 c1 c2 c3 c4 c5 c6 c7 c8 : Value} (h : w.heap[B]? = some (.cells #[c0, c1, c2, c3, c4, c5, c6, c7, c8] 59 (0, 0))) : (loadVar 59 ⟨B, 0, none⟩).run Try.prog w = .ok (.agg #[c0, c1, c2, c3, c4, c5, c6, c7, c8]) w := by
  refine run_loadVar_mid w B 0 _ [c0, c1, c2, c3, c4, c5, c6, c7, c8] _ (fun j v hv => ?_) Try.underlying59 rfl (by kernel_rfl)
  simp only [World.cell?, h, Nat.zero_add]
  rw [← hv]
  simp

set_option maxRecDepth 100000 in
set_option maxHeartbeats 3200000 in
theorem names_any (k : Int) (w : World) : Calls Try.prog 27 #[.int .i64 k] w (RetBox w (.tuple #[.agg (namesOf k).1.cs, .bool (namesOf k).2])) := by
  have hk : k = 1 ∨ k = 2 ∨ k = 3 ∨ k = 4 ∨ k = 5 ∨ k = 6 ∨ k = 7 ∨ k = 8 ∨ (k ≠ 1 ∧ k ≠ 2 ∧ k ≠ 3 ∧ k ≠ 4 ∧ k ≠ 5 ∧ k ≠ 6 ∧ k ≠ 7 ∧ k ≠ 8) := by omega
  rcases hk with rfl | rfl | rfl | rfl | rfl | rfl | rfl | rfl | ⟨h1, h2, h3, h4, h5, h6, h7, h8⟩
  case inr.inr.inr.inr.inr.inr.inr.inr =>
    have e : namesOf k = (⟨false, false, false, false, false, false, false, false, false⟩, false) := by
      unfold namesOf
      rw [if_neg (by omega), if_neg (by omega), if_neg h5, if_neg h6, if_neg h7, if_neg h8]
    rw [e]
    have b1 : (k == 1) = false := by simp [h1]
    have b2 : (k == 2) = false := by simp [h2]
    have b3 : (k == 3) = false := by simp [h3]
    have b4 : (k == 4) = false := by simp [h4]
    have b5 : (k == 5) = false := by simp [h5]
    have b6 : (k == 6) = false := by simp [h6]
    have b7 : (k == 7) = false := by simp [h7]
    have b8 : (k == 8) = false := by simp [h8]
    clear h1 h2 h3 h4 h5 h6 h7 h8 e
    go_enter Try.func27, Try.ntmps27
    go_wp2_with fail
    exact bodyPost_ret (results_cell_tmp Try.results27 rfl (load_parts (heap_alloc_new w _))) rfl ⟨rfl, below_alloc (Below.refl _ _) _⟩
  all_goals
    go_enter Try.func27, Try.ntmps27
    go_wp2_with fail
    exact bodyPost_ret (results_cell_tmp Try.results27 rfl (load_parts (heap_alloc_new w _))) rfl ⟨rfl, below_alloc (Below.refl _ _) _⟩

def numberOf (n least : Int) : Bool := decide (least ≤ n) && decide (n ≤ 1099511627776)
set_option maxRecDepth 100000 in
set_option maxHeartbeats 3200000 in
theorem number_any (n least : Int) (w : World) : Calls Try.prog 36 #[.int .i64 n, .int .i64 least] w (RetQuiet w (.bool (numberOf n least))) := by
  unfold numberOf
  by_cases h1 : least ≤ n
  · rw [decide_eq_true h1, Bool.true_and]
    go_enter Try.func36, Try.ntmps36
    go_wp2_with fail
    go_ret
    exact ⟨by simp, 0, rfl⟩
  · rw [decide_eq_false h1, Bool.false_and]
    go_enter Try.func36, Try.ntmps36
    go_wp2_with fail
    go_ret
    exact ⟨by first | rfl | simp, 0, rfl⟩

/-- a message -/
structure Ms where
  kind : Int
  fr : Int
  to : Int
  term : Int
  index : Int
  logTerm : Int
  commit : Int
  ok : Bool
  ea : Option Addr
  en : Nat
  ecap : Nat
  es : List En
  off : Int
  d : Sl
  last : Bool
  c : Cf
def Ms.cs (m : Ms) : Array Value := #[.int .i64 m.kind, .int .i64 m.fr, .int .i64 m.to, .int .i64 m.term, .int .i64 m.index, .int .i64 m.logTerm, .int .i64 m.commit, .bool m.ok, .slice m.ea m.en m.ecap, .int .i64 m.off, .slice m.d.a m.d.len m.d.cap, .bool m.last, .slice m.c.v.a m.c.v.len m.c.v.cap, .slice m.c.l.a m.c.l.len m.c.l.cap]
theorem ms_cells {w : World} {B : Nat} {T : TypeId} {m : Ms} (h : w.heap[B]? = some (.cells m.cs T (0, 0))) :
    w.cell? ⟨B, 0, none⟩ = some (.int .i64 m.kind) ∧ w.cell? ⟨B, 1, none⟩ = some (.int .i64 m.fr) ∧ w.cell? ⟨B, 2, none⟩ = some (.int .i64 m.to) ∧ w.cell? ⟨B, 3, none⟩ = some (.int .i64 m.term) ∧ w.cell? ⟨B, 4, none⟩ = some (.int .i64 m.index) ∧ w.cell? ⟨B, 5, none⟩ = some (.int .i64 m.logTerm) ∧ w.cell? ⟨B, 6, none⟩ = some (.int .i64 m.commit) ∧
    w.cell? ⟨B, 7, none⟩ = some (.bool m.ok) ∧ w.cell? ⟨B, 8, none⟩ = some (.slice m.ea m.en m.ecap) ∧ w.cell? ⟨B, 9, none⟩ = some (.int .i64 m.off) ∧ w.cell? ⟨B, 10, none⟩ = some (.slice m.d.a m.d.len m.d.cap) ∧ w.cell? ⟨B, 11, none⟩ = some (.bool m.last) ∧ w.cell? ⟨B, 12, none⟩ = some (.slice m.c.v.a m.c.v.len m.c.v.cap) ∧ w.cell? ⟨B, 13, none⟩ = some (.slice m.c.l.a m.c.l.len m.c.l.cap) := by
  unfold Ms.cs at h
  refine ⟨?_, ?_, ?_, ?_, ?_, ?_, ?_, ?_, ?_, ?_, ?_, ?_, ?_, ?_⟩ <;> simp [World.cell?, h]
/-- what it refers to can be read -/
structure MsOk (w : World) (m : Ms) : Prop where
  row : RowN w m.ea 4 m.en (m.es.flatMap En.cells)
  len : m.es.length = m.en
  ents : ∀ e ∈ m.es, Sl.ok w e.s
  ecap : m.en ≤ m.ecap ∧ m.ecap ≤ maxLen
  data : Sl.ok w m.d
  cv : RowN w m.c.v.a 1 m.c.v.len (cellsZ m.c.v.zs) ∧ (m.c.v.a = none → m.c.v.len = 0 ∧ m.c.v.cap = 0)
  cl : RowN w m.c.l.a 1 m.c.l.len (cellsZ m.c.l.zs) ∧ (m.c.l.a = none → m.c.l.len = 0 ∧ m.c.l.cap = 0)
theorem MsOk.below {w w' : World} {m : Ms} (h : MsOk w m) (hb : Below w.heap.size w w') : MsOk w' m :=
  ⟨h.row.below hb, h.len, fun e he => (h.ents e he).below hb, h.ecap, h.data.below hb, ⟨h.cv.1.below hb, h.cv.2⟩, ⟨h.cl.1.below hb, h.cl.2⟩⟩

/-- are a message's entries right, but for their number? -/
def mEnts (top : Int) : Int → Int → List En → Bool
  | _, _, [] => true
  | i, t, e :: r => if e.ix ≠ wrap64 (i + 1) ∨ 1099511627776 < e.ix ∨ e.tm < t ∨ top < e.tm ∨ e.kd < 0 ∨ 2 < e.kd ∨ 2048 < e.s.len then false else mEnts top e.ix e.tm r
end Go.Proofs.Ytcejamblndilbaa
