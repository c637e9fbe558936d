/- Arguments opened: what the row's reading of an argument tells the walk. -/
import Derived.Test.YtcejamblndilbaaBase
import Derived.Test.YtcejamblndilbaaKit
import Derived.Deep.Slices
import Derived.ProofKit
import Derived.OpenShut
namespace Go.Proofs.Ytcejamblndilbaa
open Go.ChangeShapes Go.WideShapes Go.ChangeAt Go.RowKit

theorem own : ownKnob Try.prog.godebug = none := by kernel_rfl
theorem laidOut : laidOutB Try.prog = true := by kernel_rfl

theorem bulk_one {H : Type} (d : DataW H) : 1 ≤ Rows.uptoBulk d := by
  cases d with
  | lit l => cases l <;> simp [Rows.uptoBulk]
  | _ => simp [Rows.uptoBulk]

theorem bulk_append {H : Type} (l r : List (DataW H)) : Rows.uptoBulkAll (l ++ r) = Rows.uptoBulkAll l + Rows.uptoBulkAll r := by
  induction l with
  | nil => simp [Rows.uptoBulkAll]
  | cons x l ih => simp only [List.cons_append, Rows.uptoBulkAll, ih]; omega

theorem bulk_length {H : Type} (l : List (DataW H)) : l.length ≤ Rows.uptoBulkAll l := by
  induction l with
  | nil => simp [Rows.uptoBulkAll]
  | cons x r ih => have := bulk_one x; simp only [Rows.uptoBulkAll, List.length_cons]; omega

theorem byte_of (z : Int) (h : (Lit.int .u8 z).wf = true) : (((UInt8.ofNat z.toNat).toNat : Nat) : Int) = z := by
  have hb : 0 ≤ z ∧ z ≤ 255 := by simpa [Lit.wf, IntKind.min, IntKind.max, IntKind.signed, IntKind.bits] using h
  rw [UInt8.toNat_ofNat']
  omega

set_option maxRecDepth 100000 in
/-- How a slice of bytes reads. -/
theorem bytes_trod {H : Type} {enc : TypeId × Value → H} {W : World} {fuel : Nat} {v : Value} {x : DataW H × List MemPlace}
    (hf : DataW.trod enc Try.prog W 0 (fun _ => true) true fuel 23 [v] = some x) :
    ∃ a len cap bs, v = .slice a len cap ∧ Row8 W a len bs ∧ len ≤ cap ∧ cap ≤ maxLen ∧ (a = none → cap = 0) ∧ cap + 1 ≤ Rows.uptoBulk x.1 := by
  rcases open_ints Try.underlying23 Try.underlying5 (by kernel_rfl) hf with ⟨hcs, hx⟩ | ⟨x, l, c, zs, hcs, _, hl, hm, hz, hx, hcell, hwz⟩
  · simp only [List.cons.injEq, and_true] at hcs
    subst hcs
    subst hx
    exact ⟨none, 0, 0, [], rfl, Row8.nil _ _, Nat.le_refl _, by simp [maxLen], fun _ => rfl, by simp [Rows.uptoBulk]⟩
  · simp only [List.cons.injEq, and_true] at hcs
    subst hcs
    simp only [if_true] at hz
    subst hx
    refine ⟨some x, l, c, (zs.take l).map fun z => UInt8.ofNat z.toNat, rfl, ⟨by simp; omega, fun i hi => ?_⟩, hl, hm, (fun h => by cases h), ?_⟩
    · have h0 := hcell 0 (by omega)
      obtain ⟨b, off, spot⟩ := x
      have hspot : spot = none := by simpa [Addr.add] using World.cell?_spot h0
      subst hspot
      refine ⟨b, off, rfl, ?_⟩
      have hi' := hcell i (by omega)
      have ha : (⟨b, off, none⟩ : Addr).add i = ⟨b, off + i, none⟩ := by unfold Addr.add; split <;> simp_all
      rw [ha] at hi'
      rw [hi']
      have hzi : zs.getD i 0 = zs[i]'(by omega) := by rw [List.getD_eq_getElem?_getD, List.getElem?_eq_getElem (by omega)]; rfl
      have hw := byte_of _ (hwz (zs[i]'(by omega)) (List.getElem_mem _))
      have hg : ((zs.take l).map fun z => UInt8.ofNat z.toNat).getD i 0 = UInt8.ofNat (zs[i]'(by omega)).toNat := by
        rw [List.getD_eq_getElem?_getD, List.getElem?_map, List.getElem?_take, if_pos hi, List.getElem?_eq_getElem (by omega)]
        rfl
      rw [hg, hw, hzi]
    · have h1 := bulk_length (H := H) (lits .u8 (zs.take l))
      have h2 := bulk_length (H := H) (lits .u8 (zs.drop l))
      simp only [Rows.uptoBulk]
      simp only [lits, List.length_map, List.length_take, List.length_drop] at h1 h2
      simp only [lits]
      omega

set_option maxRecDepth 100000 in
/-- A slice of bytes that came in. -/
theorem open_bytes {H : Type} {enc : TypeId × Value → H} {W : World} {r : Reach} {b0 : Nat} {v : Value} {d : DataW H} {p : List MemPlace}
    (hv : Value.okWide Try.prog W r b0 23 v) (h : DataW.Trod enc Try.prog W 0 (fun _ => true) true 23 v d p) :
    ∃ a len cap bs, v = .slice a len cap ∧ Row8 W a len bs ∧ len ≤ cap ∧ cap ≤ maxLen ∧ (a = none → cap = 0) ∧ cap + 1 ≤ Rows.uptoBulk d := by
  obtain ⟨a, len, cap, rfl⟩ := okWide_slice Try.underlying23 hv
  obtain ⟨fuel, hf⟩ := h
  exact bytes_trod hf

theorem row_add0 (x : Addr) {W : World} {v : Value} (h : W.cell? x = some v) : ∃ b off, x = ⟨b, off, none⟩ := by
  obtain ⟨b, off, spot⟩ := x
  have hspot : spot = none := World.cell?_spot h
  subst hspot
  exact ⟨b, off, rfl⟩

end Go.Proofs.Ytcejamblndilbaa
