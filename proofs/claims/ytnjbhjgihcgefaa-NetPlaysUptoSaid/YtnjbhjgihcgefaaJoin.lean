/- The document's Join. -/
import Derived.Test.YtnjbhjgihcgefaaRefList
namespace Go.Proofs.Ytnjbhjgihcgefaa
open Go.RowKit

/-- The first slice with other bytes behind it. -/
def RetJoin (w : World) (base : Nat) (row : Option Nat) (n : Nat) (bs : List UInt8) (e : Ending) (w' : World) : Prop :=
  ∃ ao cap, e = .returned (.slice ao n cap) ∧ Own8 w' base ao n cap bs ∧ w.grownBy w' row ∧ (Value.ownBlock (.slice ao n cap) = row ∨ ∃ g, Value.ownBlock (.slice ao n cap) = some g ∧ w.heap.size ≤ g)
theorem Row8.grown {w w' : World} {a : Option Addr} {len : Nat} {bs : List UInt8} {row : Option Nat} (h : Row8 w a len bs) (hg : w.grownBy w' row) (hd : ∀ b off, a = some ⟨b, off, none⟩ → row ≠ some b) : Row8 w' a len bs := by
  refine ⟨h.1, fun i hi => ?_⟩
  obtain ⟨b, off, ha, hc⟩ := h.2 i hi
  exact ⟨b, off, ha, hg.cell hc (fun e => hd b off ha e.symm)⟩
set_option maxHeartbeats 1000000 in
theorem join_any (base : Nat) (ao : Option Addr) (n cap : Nat) (xs : List UInt8) (bo : Option Addr) (m cm : Nat) (ys : List UInt8) (w : World) (hown : Own8 w base ao n cap xs) (hrow : Row8 w bo m ys)
    (hd : ∀ b off, bo = some ⟨b, off, none⟩ → 0 < m → Value.ownBlock (.slice ao n cap) ≠ some b) (hbase : base ≤ w.heap.size) (hbig : n + m ≤ 140737488355328) (N : Nat) (hN : n + m = N) :
    Calls Try.prog 27 #[.slice ao n cap, .slice bo m cm] w (RetJoin w base (Value.ownBlock (.slice ao n cap)) N (xs ++ ys)) := by
  subst hN
  have HR := Lib.hid hrow
  clear hrow
  have HO := Lib.hid hown
  clear hown
  obtain ⟨row, hrw⟩ : ∃ row, row = Value.ownBlock (.slice ao n cap) := ⟨_, rfl⟩
  rw [← hrw] at hd ⊢
  have HW := Lib.hid hrw
  clear hrw
  go_enter Try.func27, Try.ntmps27
  go_wp2
  go_loopw [0, 5] (fun v i wr => ∃ (k : Nat) (ak : Option Addr) (ck : Nat), k ≤ m ∧ i = .int .i64 k ∧ v = .slice ak (n + k) ck ∧ Own8 wr base ak (n + k) ck (xs ++ ys.take k) ∧ w.grownBy wr row ∧ (Value.ownBlock (.slice ak (n + k) ck) = row ∨ ∃ g, Value.ownBlock (.slice ak (n + k) ck) = some g ∧ w.heap.size ≤ g)) (fun _ i _ => m - (intOf i).toNat)
  case atStart => exact ⟨0, ao, cap, Nat.zero_le _, rfl, rfl, by simpa using HO.out, World.grownBy.refl _ _, .inl HW.out.symm⟩
  case round =>
    obtain ⟨k, ak, ck, hk, rfl, rfl, hok, hg, hrk⟩ := hrel
    by_cases hlt : k < m
    · obtain ⟨b, off, rfl, c, hc, hcb, hcell0⟩ := HR.out.at k hlt
      have hcell := hg.cell hcell0 (fun e => hd b off rfl (by omega) e.symm)
      have hkm : (k : Int) < (m : Int) := by omega
      have HRK := Lib.hid hrk
      have HG := Lib.hid hg
      have HOK := Lib.hid hok
      have hsz := hg.size
      clear hrk hg hok
      obtain ⟨x, hx⟩ : ∃ x : UInt8, x.toNat = c := ⟨ys.getD k 0, hcb.out⟩
      have HXC := Lib.hid hx
      clear hx
      go_wp2_with (at_builtin; refine wpList_append8 rfl (.tmp 12) (.tmp 17) rfl base ak (n + k) ck (xs ++ ys.take k) rfl (HOK.out.below (B := wr.heap.size) ((Below.refl _ _).alloc (Nat.le_refl _) _) (Nat.le_refl _)) (some ⟨wr.heap.size, 0, none⟩) 1 1 [x] rfl (Row8.new _ _ _ _ [x] 1 rfl ?c1) (fun h => by cases h) (by omega) (by simp; omega) (n + (k + 1)) (by omega) ?_)
      case c1 => simp [cells8, HXC.out]
      intro ao' cap' w1 hown1 hg1 hat1
      go_wp2
      go_roundw
      case rel =>
        refine ⟨k + 1, ao', cap', by omega, by go_num, rfl, ?_, grown_step (grown_step HG.out (World.grownBy_alloc _ _ _) (.inl rfl)) hg1 HRK.out, ?_⟩
        · have hx : x = ys[k]'(by rw [HR.out.1]; exact hlt) := by
            have e1 := hcb.out
            rw [List.getD_eq_getElem?_getD, List.getElem?_eq_getElem (by rw [HR.out.1]; exact hlt)] at e1
            exact UInt8.toNat_inj.1 (HXC.out.trans e1.symm)
          rw [List.take_succ_eq_append_getElem (by rw [HR.out.1]; exact hlt), ← hx]
          exact hown1
        · rcases hat1 with h | h
          · rcases HRK.out with h2 | h2
            · exact .inl (h.trans h2)
            · exact .inr (by rw [h]; exact h2)
          · exact .inr ⟨_, h, by omega⟩
      case measure => simp [intOf]; omega
    · have hke : k = m := by omega
      subst hke
      have hko := hok
      rw [List.take_of_length_le (by rw [HR.out.1]; exact Nat.le_refl _)] at hko
      go_wp2
      go_ret
      exact ⟨ak, ck, rfl, hko, hg, hrk⟩
end Go.Proofs.Ytnjbhjgihcgefaa
