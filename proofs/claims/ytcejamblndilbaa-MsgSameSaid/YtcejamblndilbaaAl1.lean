/- The law's example. -/
import Derived.Test.YtcejamblndilbaaSame3
import Derived.Test.YtcejamblndilbaaPl3
import Derived.Test.YtcejamblndilbaaQ1
namespace Go.Proofs.Ytcejamblndilbaa
open Go.RowKit

/-- the example -/
def exM : Ms := ⟨4, 1, 2, 3, 0, 0, 0, true, none, 0, 0, [], 0, ⟨none, 0, 0, []⟩, false, ⟨⟨none, 0, 0, []⟩, ⟨none, 0, 0, []⟩⟩⟩
theorem exM_built : Try.prog.built 28 [(0, .int .i64 4), (1, .int .i64 1), (2, .int .i64 2), (3, .int .i64 3), (7, .bool true)] = some exM.cs := by kernel_rfl
theorem row_nilZ (w : World) : RowN w none 1 0 (cellsZ []) := ⟨rfl, fun h => absurd h (by omega)⟩
theorem exM_ok (w : World) : MsOk w exM := (⟨World.ownsRow_nil _ _ _ _, rfl, fun e he => (by cases he), Own8.nil _ _, World.ownsRow_nil _ _ _ _, World.ownsRow_nil _ _ _ _⟩ : MOwn w 0 exM).ok
theorem exM_right : rightM exM = true := by decide
theorem exM_len : CLen exM := ⟨by decide, by decide⟩
theorem exM_enc : encOf exM = (Fr.frame [8, 2, 4, 6, 1], 0) := by
  have e : encM exM = [8, 2, 4, 6, 1] := by decide
  rw [encOf, if_pos exM_right, e, framed_yes (by decide)]

/-! what is encoded is decoded -/
theorem decP_frame {x : Pm} (h : rightP x = true) (hl : (encP x).length ≤ 4096) : decP (Fr.frame (encP x)) = some x := by
  have hu := Fr.unframe_frame (encP x) [] hl
  rw [List.append_nil] at hu
  have hr := readP_enc [] (fits_right h)
  rw [List.append_nil] at hr
  unfold decP
  rw [hu, if_pos ⟨rfl, by rw [Fr.frame_length]; show 8 + (encP x).length = _; omega⟩]
  simp only
  rw [payP, decStep, hr]
  simp only [h, if_true]
theorem word_unword (b : List UInt8) (h : 4 ≤ b.length) : b.take 4 = Fr.word (Fr.unword b) := by
  obtain ⟨a0, a1, a2, a3, r, rfl⟩ : ∃ a0 a1 a2 a3 r, b = a0 :: a1 :: a2 :: a3 :: r := by
    match b, h with
    | a0 :: a1 :: a2 :: a3 :: r, _ => exact ⟨a0, a1, a2, a3, r, rfl⟩
  have h0 := a0.toNat_lt
  have h1 := a1.toNat_lt
  have h2 := a2.toNat_lt
  have h3 := a3.toNat_lt
  have e : Fr.unword (a0 :: a1 :: a2 :: a3 :: r) = a0.toNat + a1.toNat * 256 + a2.toNat * 65536 + a3.toNat * 16777216 := rfl
  rw [e]
  unfold Fr.word
  have q0 : UInt8.ofNat ((a0.toNat + a1.toNat * 256 + a2.toNat * 65536 + a3.toNat * 16777216) % 256) = a0 := UInt8.toNat_inj.1 (by rw [UInt8.toNat_ofNat']; omega)
  have q1 : UInt8.ofNat ((a0.toNat + a1.toNat * 256 + a2.toNat * 65536 + a3.toNat * 16777216) / 256 % 256) = a1 := UInt8.toNat_inj.1 (by rw [UInt8.toNat_ofNat']; omega)
  have q2 : UInt8.ofNat ((a0.toNat + a1.toNat * 256 + a2.toNat * 65536 + a3.toNat * 16777216) / 65536 % 256) = a2 := UInt8.toNat_inj.1 (by rw [UInt8.toNat_ofNat']; omega)
  have q3 : UInt8.ofNat ((a0.toNat + a1.toNat * 256 + a2.toNat * 65536 + a3.toNat * 16777216) / 16777216 % 256) = a3 := UInt8.toNat_inj.1 (by rw [UInt8.toNat_ofNat']; omega)
  rw [q0, q1, q2, q3]
  rfl
/-- bytes that are one frame -/
theorem unframe_whole {b p : List UInt8} (h : Fr.unframe b = (p, b.length, 0)) : b = Fr.frame p ∧ p.length ≤ 4096 := by
  by_cases h8 : b.length < 8
  · rw [Fr.unframe_short h8] at h; injection h with _ h; injection h with _ h; cases h
  by_cases h2 : 4096 < Fr.unword b
  · rw [Fr.unframe_long h8 h2] at h; injection h with _ h; injection h with _ h; cases h
  by_cases h3 : b.length < 8 + Fr.unword b
  · rw [Fr.unframe_more h8 h2 h3] at h; injection h with _ h; injection h with _ h; cases h
  by_cases h4 : Crc.crc ((b.drop 8).take (Fr.unword b)) = Fr.unword (b.drop 4)
  · rw [Fr.unframe_ok h8 h2 h3 h4] at h
    injection h with hp h
    injection h with hl _
    have hd : (b.drop 8).take (Fr.unword b) = b.drop 8 := List.take_of_length_le (by rw [List.length_drop]; omega)
    rw [hd] at hp h4
    subst hp
    have hpl : (b.drop 8).length = Fr.unword b := by rw [List.length_drop]; omega
    refine ⟨?_, by omega⟩
    unfold Fr.frame
    rw [hpl, h4, ← word_unword b (by omega), ← word_unword (b.drop 4) (by rw [List.length_drop]; omega)]
    have e1 : (b.drop 4).take 4 ++ b.drop 8 = b.drop 4 := by
      have := List.take_append_drop 4 (b.drop 4)
      rw [List.drop_drop] at this
      exact this
    rw [e1, List.take_append_drop]
  · rw [Fr.unframe_sum h8 h2 h3 h4] at h; injection h with _ h; injection h with _ h; cases h
theorem decP_back {b : List UInt8} {x : Pm} (h : decP b = some x) : rightP x = true ∧ b = Fr.frame (encP x) ∧ (encP x).length ≤ 4096 := by
  unfold decP at h
  split at h
  · rename_i hu
    unfold payP at h
    split at h
    · rename_i y hy
      injection h with h
      subst h
      unfold decStep at hy
      split at hy
      · cases hy
      · rename_i z r hz
        split at hy
        · rename_i hr
          injection hy with hy
          injection hy with hy1 hy2
          subst hy1 hy2
          have hb := readP_back hz
          rw [List.append_nil] at hb
          obtain ⟨h1, h2⟩ := unframe_whole (b := b) (p := (Fr.unframe b).1) (by rw [← hu.1, ← hu.2])
          rw [hb] at h1 h2
          exact ⟨hr, h1, h2⟩
        · cases hy
    · cases h
  · cases h
theorem encOf_plain {w : World} {m : Ms} (h : MsOk w m) : encOf m = if rightP m.plain then Fr.framed (encP m.plain) else ([], 1) := by
  rw [encOf, rightM_plain h, encM_plain h]
end Go.Proofs.Ytcejamblndilbaa
