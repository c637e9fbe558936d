/- What the walks of this seat share: how a slice of bytes reads. -/
import Derived.Test.YtdpajcamgipgkaaRows
import Derived.Test.YtdpajcamgipgkaaCrc
import Derived.WalkKit
import Derived.WalkLawsBesides
import Derived.WalkSpells
import Derived.Lib.Hide
namespace Go.Proofs.Ytdpajcamgipgkaa
open Go.RowKit

/-- The slice at a, of len elements, holds the bytes bs. -/
def Row8 (w : World) (a : Option Addr) (len : Nat) (bs : List UInt8) : Prop :=
  bs.length = len ∧ ∀ i, i < len → ∃ b off, a = some ⟨b, off, none⟩ ∧ w.cell? ⟨b, off + i, none⟩ = some (.int .u8 ((bs.getD i 0).toNat : Nat))

theorem Row8.nil (w : World) (a : Option Addr) : Row8 w a 0 [] := ⟨rfl, fun i h => absurd h (by omega)⟩

/-- One byte of it, as a number. -/
theorem Row8.at {w : World} {a : Option Addr} {len : Nat} {bs : List UInt8} (h : Row8 w a len bs) (i : Nat) (hi : i < len) :
    ∃ b off, a = some ⟨b, off, none⟩ ∧ ∃ c : Nat, c < 256 ∧ Hid ((bs.getD i 0).toNat = c) ∧ w.cell? ⟨b, off + i, none⟩ = some (.int .u8 (c : Int)) := by
  obtain ⟨b, off, ha, hc⟩ := h.2 i hi
  exact ⟨b, off, ha, _, (bs.getD i 0).toNat_lt, rfl, hc⟩

/-- It reads so behind whatever leaves the old blocks as they were. -/
theorem Row8.below {w w' : World} {a : Option Addr} {len : Nat} {bs : List UInt8} (h : Row8 w a len bs) (hb : Below w.heap.size w w') : Row8 w' a len bs := by
  refine ⟨h.1, fun i hi => ?_⟩
  obtain ⟨b, off, ha, hc⟩ := h.2 i hi
  exact ⟨b, off, ha, (hb.cell (p := ⟨b, off + i, none⟩) (World.block_lt_of_cell? w ⟨b, off + i, none⟩ hc)).trans hc⟩
theorem Row8.alloc {w : World} {a : Option Addr} {len : Nat} {bs : List UInt8} (h : Row8 w a len bs) (o : Obj) : Row8 (w.alloc o) a len bs :=
  h.below ((Below.refl _ _).alloc (Nat.le_refl _) _)

/-- The cells of bytes. -/
def cells8 (bs : List UInt8) : List Value := bs.map fun c => Value.int .u8 (c.toNat : Nat)
theorem cells8_at (bs : List UInt8) (i : Nat) (h : i < bs.length) : (cells8 bs)[i]? = some (.int .u8 ((bs.getD i 0).toNat : Nat)) := by
  simp [cells8, List.getElem?_map, List.getElem?_eq_getElem h, List.getD_eq_getElem?_getD]
theorem cells8_one (bs : List UInt8) : ∀ u ∈ cells8 bs, u.oneCell' = true := by
  intro u hu
  obtain ⟨c, _, rfl⟩ := List.mem_map.1 hu
  rfl
theorem cells8_length (bs : List UInt8) : (cells8 bs).length = bs.length := by simp [cells8]
theorem cells8_append (a b : List UInt8) : cells8 (a ++ b) = cells8 a ++ cells8 b := by simp [cells8]

/-- A block that begins with these cells. -/
theorem Row8.of_block {w : World} {b : Nat} {cs : Array Value} {e : TypeId} {fr : Nat × Nat} {bs : List UInt8} (h : w.heap[b]? = some (.cells cs e fr)) (hcs : cs.toList.take bs.length = cells8 bs) :
    Row8 w (some ⟨b, 0, none⟩) bs.length bs := by
  refine ⟨rfl, fun i hi => ⟨b, 0, rfl, ?_⟩⟩
  have hx := cells8_at bs i hi
  rw [← hcs, List.getElem?_take, if_pos hi] at hx
  simp only [World.cell?, h, Nat.zero_add]
  simpa using hx
theorem Row8.new (w : World) (cs : Array Value) (e : TypeId) (fr : Nat × Nat) (bs : List UInt8) (n : Nat) (hn : bs.length = n) (hcs : cs.toList.take bs.length = cells8 bs) : Row8 (w.alloc (.cells cs e fr)) (some ⟨w.heap.size, 0, none⟩) n bs := by
  subst hn
  exact Row8.of_block (heap_alloc_new w _) hcs

theorem ret_int {k : IntKind} {a b : Int} (h : a = b) : Ending.returned (.int k a) = .returned (.int k b) := by rw [h]
theorem val_int {k : IntKind} {a b : Int} (h : a = b) : Value.int k a = .int k b := by rw [h]

end Go.Proofs.Ytdpajcamgipgkaa
