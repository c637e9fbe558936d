/- The plain mathematics of frames. No program in sight. -/
import Derived.Test.YtcejamblndilbaaCrc
namespace Go.Proofs.Ytcejamblndilbaa.Fr

def word (u : Nat) : List UInt8 := [UInt8.ofNat (u % 256), UInt8.ofNat (u / 256 % 256), UInt8.ofNat (u / 65536 % 256), UInt8.ofNat (u / 16777216 % 256)]
def byte (bs : List UInt8) (i : Nat) : Nat := (bs.getD i 0).toNat
def unword (bs : List UInt8) : Nat := byte bs 0 + byte bs 1 * 256 + byte bs 2 * 65536 + byte bs 3 * 16777216

theorem byte_lt (bs : List UInt8) (i : Nat) : byte bs i < 256 := (bs.getD i 0).toNat_lt
theorem unword_lt (bs : List UInt8) : unword bs < 4294967296 := by
  have h0 := byte_lt bs 0
  have h1 := byte_lt bs 1
  have h2 := byte_lt bs 2
  have h3 := byte_lt bs 3
  unfold unword
  omega
theorem word_length (u : Nat) : (word u).length = 4 := rfl
theorem unword_word (u : Nat) (h : u < 4294967296) (r : List UInt8) : unword (word u ++ r) = u := by
  have e0 : byte (word u ++ r) 0 = u % 256 := by simp [byte, word, UInt8.toNat_ofNat']
  have e1 : byte (word u ++ r) 1 = u / 256 % 256 := by simp [byte, word, UInt8.toNat_ofNat']
  have e2 : byte (word u ++ r) 2 = u / 65536 % 256 := by simp [byte, word, UInt8.toNat_ofNat']
  have e3 : byte (word u ++ r) 3 = u / 16777216 % 256 := by simp [byte, word, UInt8.toNat_ofNat']
  unfold unword
  rw [e0, e1, e2, e3]
  omega

def frame (p : List UInt8) : List UInt8 := word p.length ++ (word (Crc.crc p) ++ p)
theorem frame_length (p : List UInt8) : (frame p).length = p.length + 8 := by simp [frame, word_length]; omega

/-- payload, length, error -/
def unframe (b : List UInt8) : List UInt8 × Nat × Nat :=
  if b.length < 8 then ([], 0, 31)
  else if 4096 < unword b then ([], 0, 2)
  else if b.length < 8 + unword b then ([], 0, 31)
  else if Crc.crc ((b.drop 8).take (unword b)) = unword (b.drop 4) then ((b.drop 8).take (unword b), 8 + unword b, 0)
  else ([], 0, 32)

theorem unframe_short {b : List UInt8} (h : b.length < 8) : unframe b = ([], 0, 31) := by rw [unframe, if_pos h]
theorem unframe_long {b : List UInt8} (h : ¬ b.length < 8) (h2 : 4096 < unword b) : unframe b = ([], 0, 2) := by rw [unframe, if_neg h, if_pos h2]
theorem unframe_more {b : List UInt8} (h : ¬ b.length < 8) (h2 : ¬ 4096 < unword b) (h3 : b.length < 8 + unword b) : unframe b = ([], 0, 31) := by rw [unframe, if_neg h, if_neg h2, if_pos h3]
theorem unframe_ok {b : List UInt8} (h : ¬ b.length < 8) (h2 : ¬ 4096 < unword b) (h3 : ¬ b.length < 8 + unword b) (h4 : Crc.crc ((b.drop 8).take (unword b)) = unword (b.drop 4)) :
    unframe b = ((b.drop 8).take (unword b), 8 + unword b, 0) := by rw [unframe, if_neg h, if_neg h2, if_neg h3, if_pos h4]
theorem unframe_sum {b : List UInt8} (h : ¬ b.length < 8) (h2 : ¬ 4096 < unword b) (h3 : ¬ b.length < 8 + unword b) (h4 : ¬ Crc.crc ((b.drop 8).take (unword b)) = unword (b.drop 4)) :
    unframe b = ([], 0, 32) := by rw [unframe, if_neg h, if_neg h2, if_neg h3, if_neg h4]

theorem unword_frame (p r : List UInt8) (h : p.length ≤ 4096) : unword (frame p ++ r) = p.length := by
  unfold frame
  rw [List.append_assoc]
  exact unword_word _ (by omega) _
theorem unword_frame4 (p r : List UInt8) : unword ((frame p ++ r).drop 4) = Crc.crc p := by
  unfold frame
  rw [List.append_assoc, List.drop_append_of_le_length (by simp [word_length]), List.drop_of_length_le (by simp [word_length]), List.nil_append, List.append_assoc]
  exact unword_word _ (Crc.crc_lt p) _
theorem drop_frame (p r : List UInt8) : (frame p ++ r).drop 8 = p ++ r := by
  unfold frame
  rw [← List.append_assoc, List.append_assoc]
  exact List.drop_left' (by simp [word_length])

/-- A frame, whatever is behind it, is taken apart. -/
theorem unframe_frame (p r : List UInt8) (h : p.length ≤ 4096) : unframe (frame p ++ r) = (p, 8 + p.length, 0) := by
  have h1 := unword_frame p r h
  have hl : (frame p ++ r).length = p.length + 8 + r.length := by rw [List.length_append, frame_length]
  have ht : ((frame p ++ r).drop 8).take (unword (frame p ++ r)) = p := by rw [drop_frame, h1]; exact List.take_left' rfl
  rw [unframe_ok (by omega) (by omega) (by omega) (by rw [ht, unword_frame4]), ht, h1]

/-- Each proper beginning of a frame asks for more. -/
theorem unframe_begin (p : List UInt8) (k : Nat) (h : p.length ≤ 4096) (hk : k < (frame p).length) : unframe ((frame p).take k) = ([], 0, 31) := by
  have hl : ((frame p).take k).length = k := by rw [List.length_take]; omega
  by_cases h8 : k < 8
  · exact unframe_short (by omega)
  · have hu : unword ((frame p).take k) = p.length := by
      have hb : ∀ i, i < 4 → byte ((frame p).take k) i = byte (frame p) i := fun i hi => by
        unfold byte
        rw [List.getD_eq_getElem?_getD, List.getD_eq_getElem?_getD, List.getElem?_take, if_pos (by omega)]
      have e := unword_frame p [] h
      rw [List.append_nil] at e
      unfold unword at e ⊢
      rw [hb 0 (by omega), hb 1 (by omega), hb 2 (by omega), hb 3 (by omega)]
      exact e
    have hfl := frame_length p
    exact unframe_more (by omega) (by omega) (by omega)

theorem unword_inj {a b : List UInt8} (h : unword a = unword b) (i : Nat) (hi : i < 4) : a.getD i 0 = b.getD i 0 := by
  have h0 := byte_lt a 0
  have h1 := byte_lt a 1
  have h2 := byte_lt a 2
  have h3 := byte_lt a 3
  have g0 := byte_lt b 0
  have g1 := byte_lt b 1
  have g2 := byte_lt b 2
  have g3 := byte_lt b 3
  unfold unword at h
  apply UInt8.toNat_inj.1
  show byte a i = byte b i
  have : i = 0 ∨ i = 1 ∨ i = 2 ∨ i = 3 := by omega
  rcases this with rfl | rfl | rfl | rfl <;> omega

/-- One byte of a frame turned. -/
theorem unframe_turned (p : List UInt8) (i : Nat) (t : UInt8) (h : p.length ≤ 4096) (hi : i < (frame p).length) (ht : (frame p)[i] ≠ t) :
    (4 ≤ i → unframe ((frame p).set i t) = ([], 0, 32)) ∧ (i < 4 → (unframe ((frame p).set i t)).2.2 ≠ 0 ∨ (unframe ((frame p).set i t)).2.1 < (frame p).length) := by
  have hfl := frame_length p
  have e := unword_frame p [] h
  have e4 := unword_frame4 p []
  have e8 := drop_frame p []
  rw [List.append_nil] at e e4 e8
  rw [List.append_nil] at e8
  have hsl : ((frame p).set i t).length = p.length + 8 := by rw [List.length_set]; exact hfl
  have hget : ∀ j, ((frame p).set i t).getD j 0 = if i = j then t else (frame p).getD j 0 := fun j => by
    rw [List.getD_eq_getElem?_getD, List.getElem?_set, List.getD_eq_getElem?_getD]
    by_cases hij : i = j
    · subst hij; rw [if_pos rfl, if_pos rfl, if_pos hi]; rfl
    · rw [if_neg hij, if_neg hij]
  have hgi : (frame p).getD i 0 = (frame p)[i] := by rw [List.getD_eq_getElem?_getD, List.getElem?_eq_getElem hi]; rfl
  constructor
  · intro h4
    have hu : unword ((frame p).set i t) = p.length := by
      rw [← e]
      unfold unword byte
      rw [hget 0, hget 1, hget 2, hget 3, if_neg (by omega), if_neg (by omega), if_neg (by omega), if_neg (by omega)]
    refine unframe_sum (by omega) (by omega) (by omega) ?_
    rw [hu]
    by_cases h8 : i < 8
    · have hd : (((frame p).set i t).drop 8).take p.length = p := by
        rw [List.drop_set_of_lt (by omega), e8]
        exact List.take_of_length_le (Nat.le_refl _)
      rw [hd]
      intro hc
      rw [← e4] at hc
      have hx := unword_inj hc (i - 4) (by omega)
      rw [List.getD_eq_getElem?_getD, List.getD_eq_getElem?_getD, List.getElem?_drop, List.getElem?_drop, ← List.getD_eq_getElem?_getD, ← List.getD_eq_getElem?_getD, show 4 + (i - 4) = i from by omega, hget i, if_pos rfl, hgi] at hx
      exact ht hx
    · have hd : (((frame p).set i t).drop 8).take p.length = p.set (i - 8) t := by
        rw [List.drop_set, if_neg (by omega), e8]
        exact List.take_of_length_le (by rw [List.length_set]; exact Nat.le_refl _)
      have hd4 : unword (((frame p).set i t).drop 4) = Crc.crc p := by
        rw [← e4]
        unfold unword byte
        have hq : ∀ j, j < 4 → (((frame p).set i t).drop 4).getD j 0 = ((frame p).drop 4).getD j 0 := fun j hj => by
          rw [List.getD_eq_getElem?_getD, List.getD_eq_getElem?_getD, List.getElem?_drop, List.getElem?_drop, ← List.getD_eq_getElem?_getD, ← List.getD_eq_getElem?_getD, hget, if_neg (by omega)]
        rw [hq 0 (by omega), hq 1 (by omega), hq 2 (by omega), hq 3 (by omega)]
      rw [hd, hd4]
      intro hc
      have hi8 : i - 8 < p.length := by omega
      have hx := Crc.crc_set p (i - 8) hi8 t hc
      apply ht
      rw [← hgi, List.getD_eq_getElem?_getD, show i = 8 + (i - 8) from by omega, ← List.getElem?_drop, e8, List.getElem?_eq_getElem hi8, hx]
      rfl
  · intro h4
    have hne : unword ((frame p).set i t) ≠ p.length := by
      intro hc
      rw [← e] at hc
      have hx := unword_inj hc i h4
      rw [hget i, if_pos rfl, hgi] at hx
      exact ht hx.symm
    have h8 : ¬ ((frame p).set i t).length < 8 := by omega
    by_cases c2 : 4096 < unword ((frame p).set i t)
    · left; rw [unframe_long h8 c2]; simp
    by_cases c3 : ((frame p).set i t).length < 8 + unword ((frame p).set i t)
    · left; rw [unframe_more h8 c2 c3]; simp
    by_cases c4 : Crc.crc ((((frame p).set i t).drop 8).take (unword ((frame p).set i t))) = unword (((frame p).set i t).drop 4)
    · right
      rw [unframe_ok h8 c2 c3 c4]
      show 8 + unword ((frame p).set i t) < (frame p).length
      omega
    · left; rw [unframe_sum h8 c2 c3 c4]; simp

end Go.Proofs.Ytcejamblndilbaa.Fr
