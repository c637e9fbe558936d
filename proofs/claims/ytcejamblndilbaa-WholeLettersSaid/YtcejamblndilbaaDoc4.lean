/- The document's Decode: what its walk takes. -/
import Derived.Test.YtcejamblndilbaaDoc3
import Derived.Test.YtcejamblndilbaaSame3
namespace Go.Proofs.Ytcejamblndilbaa
open Go.RowKit

theorem takeP_len : ∀ (ks : List Int) (bs : List UInt8) (acc ps : List Pv) (r : List UInt8), takeP ks bs acc = some (ps, r) → ps.length = acc.length + ks.length
  | [], bs, acc, ps, r, h => by
    rw [takeP] at h
    injection h with h
    injection h with h _
    subst h; rfl
  | k :: ks, bs, acc, ps, r, h => by
    rw [takeP] at h
    split at h
    · cases h
    · have := takeP_len ks _ _ _ _ h
      rw [this, List.length_append, List.length_cons, List.length_cons, List.length_nil]
      omega
theorem list4 {α : Type} {l : List α} (h : l.length = 4) : ∃ a b c d, l = [a, b, c, d] := by
  match l, h with
  | [a, b, c, d], _ => exact ⟨a, b, c, d, rfl⟩
theorem list1 {α : Type} {l : List α} (h : l.length = 1) : ∃ a, l = [a] := by
  match l, h with
  | [a], _ => exact ⟨a, rfl⟩
theorem list2 {α : Type} {l : List α} (h : l.length = 2) : ∃ a b, l = [a, b] := by
  match l, h with
  | [a, b], _ => exact ⟨a, b, rfl⟩
theorem list3 {α : Type} {l : List α} (h : l.length = 3) : ∃ a b c, l = [a, b, c] := by
  match l, h with
  | [a, b, c], _ => exact ⟨a, b, c, rfl⟩
theorem list6 {α : Type} {l : List α} (h : l.length = 6) : ∃ a b c d e f, l = [a, b, c, d, e, f] := by
  match l, h with
  | [a, b, c, d, e, f], _ => exact ⟨a, b, c, d, e, f, rfl⟩
theorem drop5 (vs : List Vl) : ∀ i, (vs.flatMap Vl.cells).drop (i * 5) = (vs.drop i).flatMap Vl.cells := by
  induction vs with
  | nil => intro i; simp
  | cons x r ih =>
    intro i
    cases i with
    | zero => simp
    | succ i =>
      rw [List.drop_succ_cons, ← ih i, List.flatMap_cons, show (i + 1) * 5 = 5 + i * 5 by omega, ← List.drop_drop]
      congr 1
/-- the cells of the document's values -/
theorem OwnR.cells {w : World} {B : Nat} {vs : List Vl} {ao : Option Addr} {n cap : Nat} (h : OwnR w B vs ao n cap) (hn : 0 < n) : ∃ g, ao = some ⟨g, 0, none⟩ ∧ B ≤ g ∧ g < w.heap.size ∧
    ∀ k v, vs[k]? = some v → w.cell? ⟨g, k * 5, none⟩ = some (.int .i64 v.kind) ∧ w.cell? ⟨g, k * 5 + 1, none⟩ = some (.int .i64 v.n) ∧ w.cell? ⟨g, k * 5 + 2, none⟩ = some (.float .f64 v.x) ∧ w.cell? ⟨g, k * 5 + 3, none⟩ = some (.slice v.s.a v.s.len v.s.cap) ∧ w.cell? ⟨g, k * 5 + 4, none⟩ = some (.bool v.on) := by
  have hl := h.len
  rcases h.row.2 with ⟨hv, _⟩ | ⟨g, cp, cur, hv, hbg, hg, _, _, _, htake⟩
  · injection hv with _ h1 _
    omega
  · injection hv with h1 h2 h3
    subst h1
    have hR : RowN w (some ⟨g, 0, none⟩) 5 n (vs.flatMap Vl.cells) := RowN.of_own h.row
    obtain ⟨b', off, ha, hc⟩ := hR.2 hn
    injection ha with ha
    injection ha with ha1 ha2 _
    subst ha1 ha2
    refine ⟨g, rfl, hbg, (Array.getElem?_eq_some_iff.1 hg).1, fun k v hkv => ?_⟩
    have hk : k < vs.length := (List.getElem?_eq_some_iff.1 hkv).1
    have hcell : ∀ i u, i < 5 → v.cells[i]? = some u → (vs.flatMap Vl.cells)[k * 5 + i]? = some u := fun i u hi hu => by
      have h1 : ((vs.flatMap Vl.cells).drop (k * 5))[i]? = some u := by
        rw [drop5, List.drop_eq_getElem_cons hk, List.flatMap_cons, List.getElem?_append_left (by simp [Vl.cells]; omega)]
        have : vs[k]'hk = v := (List.getElem?_eq_some_iff.1 hkv).2
        rw [this]
        exact hu
      rwa [List.getElem?_drop] at h1
    have e0 := hc _ _ (hcell 0 _ (by omega) rfl)
    have e1 := hc _ _ (hcell 1 _ (by omega) rfl)
    have e2 := hc _ _ (hcell 2 _ (by omega) rfl)
    have e3 := hc _ _ (hcell 3 _ (by omega) rfl)
    have e4 := hc _ _ (hcell 4 _ (by omega) rfl)
    rw [Nat.zero_add] at e0 e1 e2 e3 e4
    exact ⟨e0, e1, e2, e3, e4⟩

/-- a message whose memory begins at B: that of its configuration is only read -/
structure MAp (w : World) (B : Nat) (m : Ms) : Prop where
  row : w.ownsRow B 41 4 (.slice m.ea m.en m.ecap) m.en (m.es.flatMap En.cells)
  len : m.es.length = m.en
  ents : ∀ e ∈ m.es, Own8 w B e.s.a e.s.len e.s.cap e.s.bs
  data : Own8 w B m.d.a m.d.len m.d.cap m.d.bs
  conf : m.c.ok w
  place : CfP (fun b => B ≤ b) m.c
  clen : CLen m
theorem RowN.keepP {w w' : World} {a : Option Addr} {size n B : Nat} {vs : List Value} (h : RowN w a size n vs) (hp : ∀ b off, a = some ⟨b, off, none⟩ → 0 < n → B ≤ b) (hk : ∀ g, B ≤ g → g < w.heap.size → w'.heap[g]? = w.heap[g]?) : RowN w' a size n vs := by
  refine ⟨h.1, fun hn => ?_⟩
  obtain ⟨b, off, rfl, hc⟩ := h.2 hn
  refine ⟨b, off, rfl, fun j u hu => ?_⟩
  have h1 := hc j u hu
  rw [World.cell?_of_block (hk b (hp b off rfl hn) (World.block_lt_of_cell? w _ h1))]
  exact h1
theorem MAp.keep {w w' : World} {B : Nat} {m : Ms} (h : MAp w B m) (hk : ∀ g, B ≤ g → g < w.heap.size → w'.heap[g]? = w.heap[g]?) : MAp w' B m :=
  ⟨own_keep h.row fun g hg hl => hk g (h.row.lt g hg).1 hl, h.len, fun e he => (h.ents e he).keep hk, h.data.keep hk, ⟨⟨h.conf.1.1.keepP h.place.1 hk, h.conf.1.2⟩, ⟨h.conf.2.1.keepP h.place.2 hk, h.conf.2.2⟩⟩, h.place, h.clen⟩
theorem MAp.below {w w' : World} {B : Nat} {m : Ms} (h : MAp w B m) (hb : Below w.heap.size w w') : MAp w' B m := h.keep fun g _ hl => hb.block g hl
theorem MAp.ok {w : World} {B : Nat} {m : Ms} (h : MAp w B m) : MsOk w m :=
  ⟨RowN.of_own h.row, h.len, fun e he => Own8.sl (h.ents e he), ⟨(own_cap h.row).1, (own_cap h.row).2.1⟩, Own8.sl h.data, ⟨h.conf.1.1, h.conf.1.2⟩, ⟨h.conf.2.1, h.conf.2.2⟩⟩
theorem headM_ap (w : World) (B : Nat) (k f t n : Int) : MAp w B (headM k f t n) :=
  ⟨World.ownsRow_nil _ _ _ _, rfl, fun e he => (by cases he), Own8.nil _ _, ⟨⟨RowN.nil _ _ _, fun _ => ⟨rfl, rfl⟩⟩, ⟨RowN.nil _ _ _, fun _ => ⟨rfl, rfl⟩⟩⟩, ⟨fun b off e => (by cases e), fun b off e => (by cases e)⟩, ⟨Nat.zero_le _, Nat.zero_le _⟩⟩
theorem zeroM_ok (w : World) : MsOk w zeroM := (zeroM_own w 0).ok
theorem zeroM_len : CLen zeroM := ⟨by decide, by decide⟩

/-- what the document's Decode answers -/
def DocPost (w : World) (b : List UInt8) (e : Ending) (w' : World) : Prop :=
  ∃ m : Ms, e = .returned (.tuple #[.agg m.cs, .bool (decP b).isSome]) ∧ m.plain = (decP b).getD zeroM.plain ∧ MsOk w' m ∧ CLen m ∧ Below w.heap.size w w'
/-- the two ways out -/
def DocNo (w : World) (post : Ending → World → Prop) : Prop := ∀ w', Below w.heap.size w w' → post (.returned (.tuple #[.agg zeroM.cs, .bool false])) w'
def DocYes (w : World) (post : Ending → World → Prop) (x : Pm) : Prop := ∀ (m : Ms) w', m.plain = x → MsOk w' m → CLen m → Below w.heap.size w w' → post (.returned (.tuple #[.agg m.cs, .bool true])) w'
theorem DocPost.no {w : World} {b : List UInt8} (h : decP b = none) : DocNo w (DocPost w b) := fun w' hb => ⟨zeroM, by rw [h]; rfl, by rw [h]; rfl, zeroM_ok _, zeroM_len, hb⟩
theorem DocPost.yes {w : World} {b : List UInt8} {x : Pm} (h : decP b = some x) : DocYes w (DocPost w b) x := fun m w' h1 h2 h3 hb => ⟨m, by rw [h]; rfl, by rw [h]; exact h1, h2, h3, hb⟩
end Go.Proofs.Ytcejamblndilbaa
