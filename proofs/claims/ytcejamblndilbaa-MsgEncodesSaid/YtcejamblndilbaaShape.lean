/- A message's own memory, whatever bytes and numbers stand in it; what is written there. -/
import Derived.Test.YtcejamblndilbaaAl2
namespace Go.Proofs.Ytcejamblndilbaa
open Go.RowKit

/-- a message in memory of the call's own, whatever is written in it -/
structure MShape (w : World) (B : Nat) (m : Ms) : Prop where
  row : w.ownsRow B 41 4 (.slice m.ea m.en m.ecap) m.en (m.es.flatMap En.cells)
  len : m.es.length = m.en
  ents : ∀ e ∈ m.es, ∃ bs, Own8 w B e.s.a e.s.len e.s.cap bs
  data : ∃ bs, Own8 w B m.d.a m.d.len m.d.cap bs
  cv : ∃ zs, OwnZ w B ⟨m.c.v.a, m.c.v.len, m.c.v.cap, zs⟩
  cl : ∃ zs, OwnZ w B ⟨m.c.l.a, m.c.l.len, m.c.l.cap, zs⟩
theorem MOwn.shape {w : World} {B : Nat} {m : Ms} (h : MOwn w B m) : MShape w B m := ⟨h.row, h.len, fun e he => ⟨_, h.ents e he⟩, ⟨_, h.data⟩, ⟨_, h.cv⟩, ⟨_, h.cl⟩⟩
theorem own_other_store {w : World} {B : Nat} {T : TypeId} {k : Nat} {v : Value} {n : Nat} {xs : List Value} (h : w.ownsRow B T k v n xs) {g i : Nat} {u : Value} (hg : v.ownBlock ≠ some g) : (w.setCell ⟨g, i, none⟩ u).ownsRow B T k v n xs :=
  own_keep h fun g' h1 _ => heap_setCell_other w ⟨g, i, none⟩ g' u (fun e => hg (by rw [h1]; simp at e; rw [e]))
theorem own8_some_store {w : World} {B : Nat} {ao : Option Addr} {n c : Nat} {bs : List UInt8} (h : Own8 w B ao n c bs) (g i : Nat) (x : UInt8) : ∃ bs', Own8 (w.setCell ⟨g, i, none⟩ (.int .u8 (x.toNat : Nat))) B ao n c bs' := by
  by_cases hg : Value.ownBlock (.slice ao n c) = some g
  · cases ao with
    | none => cases hg
    | some a =>
      rcases h.2 with ⟨hv, _⟩ | ⟨g', cp, cur, hv, _⟩
      · simp at hv
      · simp only [Value.slice.injEq, Option.some.injEq, true_and] at hv
        obtain ⟨rfl, rfl⟩ := hv
        injection hg with hg
        subst hg
        exact ⟨_, h.store i x⟩
  · exact ⟨bs, own_other_store h hg⟩
theorem ownZ_some_store {w : World} {B : Nat} {a : Option Addr} {n c : Nat} {zs : List Int} (h : OwnZ w B ⟨a, n, c, zs⟩) (g i : Nat) (x : Int) : ∃ zs', OwnZ (w.setCell ⟨g, i, none⟩ (.int .i64 x)) B ⟨a, n, c, zs'⟩ := by
  by_cases hg : Value.ownBlock (.slice a n c) = some g
  · cases a with
    | none => cases hg
    | some a =>
      rcases h.2 with ⟨hv, _⟩ | ⟨g', cp, cur, hv, _⟩
      · simp at hv
      · simp only [Value.slice.injEq, Option.some.injEq, true_and] at hv
        obtain ⟨rfl, rfl⟩ := hv
        injection hg with hg
        subst hg
        have h1 := (World.ownsRow.stored h i (.int .i64 x)).1
        refine ⟨zs.set i x, ?_⟩
        unfold OwnZ
        simp only
        rw [show cellsZ (zs.set i x) = (cellsZ zs).set i (.int .i64 x) from List.map_set]
        exact h1
  · exact ⟨zs, own_other_store h hg⟩
theorem MShape.store8 {w : World} {B : Nat} {m : Ms} (h : MShape w B m) {g n c : Nat} {bs : List UInt8} (hg : Own8 w B (some ⟨g, 0, none⟩) n c bs) (i : Nat) (x : UInt8) : MShape (w.setCell ⟨g, i, none⟩ (.int .u8 (x.toNat : Nat))) B m := by
  obtain ⟨db, hd⟩ := h.data
  obtain ⟨vz, hv⟩ := h.cv
  obtain ⟨lz, hl⟩ := h.cl
  refine ⟨own_other_store h.row (fun e => own_apart h.row hg (by decide) g e rfl), h.len, fun e he => ?_, own8_some_store hd g i x, ⟨vz, own_other_store hv (fun e => own_apart hv hg (by decide) g e rfl)⟩, ⟨lz, own_other_store hl (fun e => own_apart hl hg (by decide) g e rfl)⟩⟩
  obtain ⟨b, hb⟩ := h.ents e he
  exact own8_some_store hb g i x
theorem MShape.storeZ {w : World} {B : Nat} {m : Ms} (h : MShape w B m) {g n c : Nat} {zs : List Int} (hg : OwnZ w B ⟨some ⟨g, 0, none⟩, n, c, zs⟩) (i : Nat) (x : Int) : MShape (w.setCell ⟨g, i, none⟩ (.int .i64 x)) B m := by
  obtain ⟨db, hd⟩ := h.data
  obtain ⟨vz, hv⟩ := h.cv
  obtain ⟨lz, hl⟩ := h.cl
  refine ⟨own_other_store h.row (fun e => own_apart h.row hg (by decide) g e rfl), h.len, fun e he => ?_, ⟨db, own_other_store hd (fun e => own_apart hd hg (by decide) g e rfl)⟩, ownZ_some_store hv g i x, ownZ_some_store hl g i x⟩
  obtain ⟨b, hb⟩ := h.ents e he
  exact ⟨b, own_other_store hb (fun e => own_apart hb hg (by decide) g e rfl)⟩
end Go.Proofs.Ytcejamblndilbaa
