/- The document's list: the letters, one of them another, others behind. -/
import Derived.Test.YtnjbhjgihcgefaaRef1
namespace Go.Proofs.Ytnjbhjgihcgefaa
open Go.RowKit

/-- the bytes lie in blocks that P holds of -/
def SlP (P : Nat → Prop) (s : Sl) : Prop := ∀ b off, s.a = some ⟨b, off, none⟩ → 0 < s.len → P b
/-- a row of letters that is only read -/
structure RefAt (w : World) (P : Nat → Prop) (us : List L3) (a : Option Addr) (n : Nat) : Prop where
  len : us.length = n
  row : RowN w a 3 n (us.flatMap L3.cells)
  ok : ∀ u ∈ us, Sl.ok w u.s ∧ SlP P u.s
  far : ∀ b off, a = some ⟨b, off, none⟩ → 0 < n → P b
theorem RefAt.nil (w : World) (P : Nat → Prop) : RefAt w P [] none 0 := ⟨rfl, RowN.nil _ _ _, fun u hu => (by cases hu), fun _ _ h => (by cases h)⟩
theorem RefAt.below {w w' : World} {P : Nat → Prop} {us : List L3} {a : Option Addr} {n : Nat} (h : RefAt w P us a n) (hb : Below w.heap.size w w') : RefAt w' P us a n :=
  ⟨h.len, h.row.below hb, fun u hu => ⟨(h.ok u hu).1.below hb, (h.ok u hu).2⟩, h.far⟩

def setAt (us : List L3) (i : Int) (l : L3) : List L3 := if 0 ≤ i ∧ i < (us.length : Int) then us.set i.toNat l else us
theorem setAt_len (us : List L3) (i : Int) (l : L3) : (setAt us i l).length = us.length := by
  unfold setAt; split
  · rw [List.length_set]
  · rfl
theorem setAt_at {us : List L3} {i : Int} {l : L3} {k : Nat} {u : L3} (h : us[k]? = some u) : (setAt us i l)[k]? = some (if (k : Int) = i then l else u) := by
  have hk : k < us.length := (List.getElem?_eq_some_iff.1 h).1
  unfold setAt
  split
  · rename_i hi
    rw [List.getElem?_set]
    by_cases e : i.toNat = k
    · rw [if_pos e, if_pos (by omega), if_pos (by omega)]
    · rw [if_neg e, if_neg (by omega), h]
  · rename_i hi
    rw [if_neg (by omega), h]
theorem setAt_mem {us : List L3} {i : Int} {l u : L3} (h : u ∈ setAt us i l) : u ∈ us ∨ u = l := by
  unfold setAt at h
  split at h
  · exact List.mem_or_eq_of_mem_set h
  · exact .inl h
theorem setAt_neg (us : List L3) (l : L3) : setAt us (-1) l = us := by unfold setAt; rw [if_neg (by omega)]
theorem take_snoc {us : List L3} {k : Nat} {u : L3} (h : us[k]? = some u) : (us.take (k + 1)).flatMap L3.cells = (us.take k).flatMap L3.cells ++ u.cells := by
  rw [List.take_add_one, h, List.flatMap_append]
  simp

theorem info_refletter : (Try.prog.info? 45).map (fun i => (i.zero, i.size, i.bytes)) = some (some (.agg #[.int .i64 0, .int .i64 0, .slice none 0 0]), 3, 40) := by kernel_rfl
theorem wpList_appendR {w : World} {ops : Array Oper} {rest : List Oper} {o : Oper} {a : Act} {Q : Exit → Act → World → Prop} (hgd : o.guard = none) (s x : Operand)
    (ho : o.op = .call { callee := .builtin .append, args := #[s, x], argTypes := #[38, 38] })
    (base : Nat) (ao : Option Addr) (n cap : Nat) (vs : List Value) (hs : a.eval s = .slice ao n cap) (hown : w.ownsRow base 45 3 (.slice ao n cap) n vs)
    (ax : Option Addr) (m c : Nat) (xs : List Value) (hx : a.eval x = .slice ax m c) (hrow : RowN w ax 3 m xs) (hnil : ax = none → c = 0) (h1 : ∀ u ∈ xs, u.oneCell' = true) (hbig : n + m ≤ 1000000000000) (hbase : base ≤ w.heap.size) (N : Nat) (hN : n + m = N)
    (h : ∀ ao' cap' w', w'.ownsRow base 45 3 (.slice ao' N cap') N (vs ++ xs) → w.grownBy w' (Value.ownBlock (.slice ao n cap)) →
      (Value.ownBlock (.slice ao' N cap') = Value.ownBlock (.slice ao n cap) ∨ Value.ownBlock (.slice ao' N cap') = some w.heap.size) → wpList Try.prog ops Q rest (a.put o.dst (.slice ao' N cap')) w') : wpList Try.prog ops Q (o :: rest) a w := by
  obtain ⟨i0, hi, hz0, hz1, hz2⟩ := info_parts info_refletter
  exact wpList_append_row hgd s x _ ho base 45 i0 _ 3 40 Try.underlying38 hi hz0 hz1 hz2 rfl (by decide) ao n cap vs hs hown ax m c xs hx hrow.1 hrow.news hnil h1 (by simp only [maxLen]; omega) (by omega) hbase N hN h

/-- It returns letters, in memory made since; what was there is as it was. -/
def RetRef (w : World) (P : Nat → Prop) (us : List L3) (n : Nat) (e : Ending) (w' : World) : Prop :=
  ∃ a c, e = .returned (.slice a n c) ∧ RefAt w' P us a n ∧ Below w.heap.size w w'

/-- out of a row of the call's own -/
theorem RefAt.of_own {w w' : World} {P : Nat → Prop} {us : List L3} {a : Option Addr} {n c base : Nat} (hrow : w'.ownsRow base 45 3 (.slice a n c) n (us.flatMap L3.cells)) (hb : w.heap.size ≤ base) (hl : us.length = n) (hok : ∀ u ∈ us, Sl.ok w' u.s ∧ SlP P u.s) (hnew : ∀ b, w.heap.size ≤ b → P b) : RefAt w' P us a n :=
  ⟨hl, RowN.of_own hrow, hok, fun b off e _ => hnew b (by
    subst e
    have := (hrow.lt b rfl).1
    omega)⟩

def listBox (w : World) (most : Int) (a : Option Addr) (n c : Nat) (l : L3) : World := (w.alloc (.cells #[.int .i64 most, .slice a n c] 40)).alloc (.cells #[.int .i64 l.f, .int .i64 l.t, .slice l.s.a l.s.len l.s.cap] 45)
theorem listBox_size (w : World) (most : Int) (a : Option Addr) (n c : Nat) (l : L3) : (listBox w most a n c l).heap.size = w.heap.size + 2 := by unfold listBox; rw [World.size_alloc, World.size_alloc]
theorem listBox_below (w : World) (most : Int) (a : Option Addr) (n c : Nat) (l : L3) : Below w.heap.size w (listBox w most a n c l) := ((Below.refl _ _).alloc (Nat.le_refl _) _).alloc (by rw [World.size_alloc]; omega) _
theorem listBox_a (w : World) (most : Int) (a : Option Addr) (n c : Nat) (l : L3) : (listBox w most a n c l).heap[w.heap.size]? = some (.cells #[.int .i64 most, .slice a n c] 40 (0, 0)) :=
  (heap_alloc_old _ _ (by rw [World.size_alloc]; omega)).trans (heap_alloc_new w _)
theorem listBox_b (w : World) (most : Int) (a : Option Addr) (n c : Nat) (l : L3) : (listBox w most a n c l).heap[w.heap.size + 1]? = some (.cells #[.int .i64 l.f, .int .i64 l.t, .slice l.s.a l.s.len l.s.cap] 45 (0, 0)) := by
  have := heap_alloc_new (w.alloc (.cells #[.int .i64 most, .slice a n c] 40)) (.cells #[.int .i64 l.f, .int .i64 l.t, .slice l.s.a l.s.len l.s.cap] 45)
  rw [World.size_alloc] at this
  exact this

set_option maxRecDepth 100000 in
set_option maxHeartbeats 3200000 in
theorem rlist_any (P : Nat → Prop) (us us2 : List L3) (most ii : Int) (l : L3) (a am : Option Addr) (n c m cm : Nat) (w : World) (h : RefAt w P us a n) (hl : Sl.ok w l.s ∧ SlP P l.s) (hm : RefAt w P us2 am m) (hnew : ∀ b, w.heap.size ≤ b → P b) (hbig : n + m ≤ 1000000000) :
    Calls Try.prog 26 #[.agg #[.int .i64 most, .slice a n c], .int .i64 ii, .agg #[.int .i64 l.f, .int .i64 l.t, .slice l.s.a l.s.len l.s.cap], .slice am m cm] w (RetRef w P (setAt us ii l ++ us2) (n + m)) := by
  have hX := listBox_below w most a n c l
  have hXs := listBox_size w most a n c l
  have hA := listBox_a w most a n c l
  have hB := listBox_b w most a n c l
  have H := Lib.hid h
  have HL := Lib.hid hl
  have HM := Lib.hid hm
  have HNEW := Lib.hid hnew
  clear h hl hm hnew
  go_enter Try.func26, Try.ntmps26
  go_wp2_with fail
  obtain ⟨X, hXe⟩ : ∃ X, X = listBox w most a n c l := ⟨_, rfl⟩
  rw [← hXe] at hX hXs hA hB
  have HXE := Lib.hid hXe
  have HX := Lib.hid hX
  have HA := Lib.hid hA
  have HB := Lib.hid hB
  clear hXe hX hA hB
  go_loopw [9, 10] (fun v i wr => ∃ (k : Nat) (ak : Option Addr) (ck : Nat), k ≤ n ∧ i = .int .i64 k ∧ v = .slice ak k ck ∧ wr.ownsRow X.heap.size 45 3 (.slice ak k ck) k (((setAt us ii l).take k).flatMap L3.cells) ∧ Below X.heap.size X wr) (fun _ i _ => n - (intOf i).toNat)
  case atStart =>
    have hown := World.ownsRow_lit (base := X.heap.size) (e := 45) (size := 3) X #[] 0 (Nat.le_refl _) (by simp [maxLen]) rfl
    have hbx := (Below.refl X.heap.size X).alloc (Nat.le_refl _) (.cells #[] 45)
    refine ⟨0, _, 0, by omega, rfl, rfl, ?_, ?_⟩
    · rw [HXE.out, listBox_size] at hown
      rw [hXs]
      exact hown
    · rw [HXE.out] at hbx ⊢
      exact hbx
  case round =>
    obtain ⟨k, ak, ck, hk, rfl, rfl, hown, hbw⟩ := hrel
    have hzw := hbw.size
    have hAw := (hbw.block w.heap.size (by omega)).trans HA.out
    have hBw := (hbw.block (w.heap.size + 1) (by omega)).trans HB.out
    obtain ⟨x0, x1, _, _⟩ := two_cells hAw
    obtain ⟨y0, y1, y2, _, _, _⟩ := three_cells hBw
    have HOWN := Lib.hid hown
    have HBW := Lib.hid hbw
    clear hown hbw hAw hBw
    by_cases hlt : k < n
    · obtain ⟨u, hu⟩ : ∃ u, us[k]? = some u := ⟨_, List.getElem?_eq_getElem (by rw [H.out.len]; exact hlt)⟩
      have hkn : (k : Int) < (n : Int) := by omega
      have hsn := take_snoc (setAt_at (i := ii) (l := l) hu)
      have HSN := Lib.hid hsn
      clear hsn
      by_cases hki : (k : Int) = ii
      · subst hki
        have hO := own_keep HOWN.out (w' := wr.alloc (.cells #[.int .i64 l.f, .int .i64 l.t, .slice l.s.a l.s.len l.s.cap] 45)) (fun g hg hl => heap_alloc_old wr _ hl)
        have HO := Lib.hid hO
        clear hO
        go_wp2_with (at_builtin; refine wpList_appendR rfl (.tmp 23) (.tmp 25) rfl X.heap.size ak k ck (((setAt us (k : Int) l).take k).flatMap L3.cells) rfl HO.out (some ⟨wr.heap.size, 0, none⟩) 1 1 l.cells rfl (RowN.newH _ _ _ 3 1 _ _ rfl rfl rfl) (fun h => by cases h) (cells_one3 _) (by omega) (by rw [World.size_alloc]; omega) (k + 1) rfl ?_; intro ao3 cap3 w3 hown3 hg3 hat3)
        go_roundw
        case rel =>
          refine ⟨k + 1, ao3, cap3, by omega, by go_num, rfl, ?_, (HBW.out.alloc hzw _).grown hg3 (by rw [World.size_alloc]; omega) (fun g hg => (HOWN.out.lt g hg).1)⟩
          rw [HSN.out, if_pos rfl]
          exact hown3
        case measure => simp [intOf]; omega
      · have hki' : ((k : Int) == ii) = false := beq_eq_false_iff_ne.2 hki
        have hRw := RowN.below (H.out.below (HX.out.trans (HBW.out.mono (by omega)))).row (Below.refl _ _)
        obtain ⟨b, off, rfl, u0, u1, u2⟩ := letters_at hRw H.out.len k hlt u hu
        have hO := own_keep HOWN.out (w' := wr.alloc (.cells #[.int .i64 u.f, .int .i64 u.t, .slice u.s.a u.s.len u.s.cap] 45)) (fun g hg hl => heap_alloc_old wr _ hl)
        have HO := Lib.hid hO
        clear hO hRw
        go_wp2_with (at_builtin; refine wpList_appendR rfl (.tmp 27) (.tmp 33) rfl X.heap.size ak k ck (((setAt us ii l).take k).flatMap L3.cells) rfl HO.out (some ⟨wr.heap.size, 0, none⟩) 1 1 u.cells rfl (RowN.newH _ _ _ 3 1 _ _ rfl rfl rfl) (fun h => by cases h) (cells_one3 _) (by omega) (by rw [World.size_alloc]; omega) (k + 1) rfl ?_; intro ao3 cap3 w3 hown3 hg3 hat3)
        go_roundw
        case rel =>
          refine ⟨k + 1, ao3, cap3, by omega, by go_num, rfl, ?_, (HBW.out.alloc hzw _).grown hg3 (by rw [World.size_alloc]; omega) (fun g hg => (HOWN.out.lt g hg).1)⟩
          rw [HSN.out, if_neg hki]
          exact hown3
        case measure => simp [intOf]; omega
    · have hke : k = n := by omega
      subst hke
      have ht : (setAt us ii l).take k = setAt us ii l := List.take_of_length_le (by rw [setAt_len, H.out.len]; exact Nat.le_refl _)
      have hO := HOWN.out
      rw [ht] at hO
      have HO := Lib.hid hO
      clear hO ht HOWN
      obtain ⟨wo, hwo⟩ : ∃ wo, wo = wr := ⟨_, rfl⟩
      subst hwo
      go_wp2_with fail
      go_loopw [9, 11] (fun v i wr => ∃ (j : Nat) (ak : Option Addr) (ck : Nat), j ≤ m ∧ i = .int .i64 j ∧ v = .slice ak (k + j) ck ∧ wr.ownsRow X.heap.size 45 3 (.slice ak (k + j) ck) (k + j) ((setAt us ii l ++ us2.take j).flatMap L3.cells) ∧ Below X.heap.size X wr) (fun _ i _ => m - (intOf i).toNat)
      case atStart => exact ⟨0, ak, ck, by omega, rfl, rfl, by simpa using HO.out, HBW.out⟩
      case round =>
        obtain ⟨j, ak, ck, hj, rfl, rfl, hown, hbw⟩ := hrel
        have hzw := hbw.size
        have HOWN := Lib.hid hown
        have HBW2 := Lib.hid hbw
        clear hown hbw
        by_cases hlt : j < m
        · obtain ⟨u, hu⟩ : ∃ u, us2[j]? = some u := ⟨_, List.getElem?_eq_getElem (by rw [HM.out.len]; exact hlt)⟩
          have hjm : (j : Int) < (m : Int) := by omega
          obtain ⟨b, off, rfl, u0, u1, u2⟩ := letters_at (HM.out.below (HX.out.trans (HBW2.out.mono (by omega)))).row HM.out.len j hlt u hu
          have hO := own_keep HOWN.out (w' := wr.alloc (.cells #[.int .i64 u.f, .int .i64 u.t, .slice u.s.a u.s.len u.s.cap] 45)) (fun g hg hl => heap_alloc_old wr _ hl)
          have HO := Lib.hid hO
          clear hO
          go_wp2_with (at_builtin; refine wpList_appendR rfl (.tmp 41) (.tmp 46) rfl X.heap.size ak (k + j) ck ((setAt us ii l ++ us2.take j).flatMap L3.cells) rfl HO.out (some ⟨wr.heap.size, 0, none⟩) 1 1 u.cells rfl (RowN.newH _ _ _ 3 1 _ _ rfl rfl rfl) (fun h => by cases h) (cells_one3 _) (by omega) (by rw [World.size_alloc]; omega) (k + j + 1) rfl ?_; intro ao3 cap3 w3 hown3 hg3 hat3)
          go_roundw
          case rel =>
            refine ⟨j + 1, ao3, cap3, by omega, by go_num, rfl, ?_, (HBW2.out.alloc hzw _).grown hg3 (by rw [World.size_alloc]; omega) (fun g hg => (HOWN.out.lt g hg).1)⟩
            rw [List.flatMap_append, take_snoc hu, ← List.append_assoc, ← List.flatMap_append]
            exact hown3
          case measure => simp [intOf]; omega
        · have hje : j = m := by omega
          subst hje
          have ht2 : us2.take j = us2 := List.take_of_length_le (by rw [HM.out.len]; exact Nat.le_refl _)
          go_wp2_with fail
          go_ret
          have hall := HX.out.trans (HBW2.out.mono (by omega))
          refine ⟨ak, ck, rfl, RefAt.of_own (by have h1 := HOWN.out; rw [ht2] at h1; exact h1) (by omega) (by rw [List.length_append, setAt_len, H.out.len, HM.out.len]) (fun v hv => ?_) HNEW.out, hall⟩
          rcases List.mem_append.1 hv with hv | hv
          · rcases setAt_mem hv with hv | rfl
            · exact ⟨(H.out.ok v hv).1.below hall, (H.out.ok v hv).2⟩
            · exact ⟨HL.out.1.below hall, HL.out.2⟩
          · exact ⟨(HM.out.ok v hv).1.below hall, (HM.out.ok v hv).2⟩
end Go.Proofs.Ytnjbhjgihcgefaa
