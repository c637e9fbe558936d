/- All: clones of all letters. -/
import Derived.Test.YtnjbhjgihcgefaaSwap
namespace Go.Proofs.Ytnjbhjgihcgefaa
open Go.RowKit

/-- what a letter says -/
def L3.says (l : L3) : Int × Int × List UInt8 := (l.f, l.t, l.s.bs)

/-- letters in memory of the call's own -/
structure OwnL (w : World) (base : Nat) (ls : List L3) (ao : Option Addr) (n cap : Nat) : Prop where
  len : ls.length = n
  row : w.ownsRow base 30 3 (.slice ao n cap) n (ls.flatMap L3.cells)
  own : ∀ l ∈ ls, Own8 w base l.s.a l.s.len l.s.cap l.s.bs
theorem OwnL.nil (w : World) (base : Nat) : OwnL w base [] none 0 0 := ⟨rfl, World.ownsRow_nil w base _ 3, fun v h => by cases h⟩
theorem OwnL.keep {w w' : World} {base : Nat} {ls : List L3} {ao : Option Addr} {n cap : Nat} (h : OwnL w base ls ao n cap) (hk : ∀ g, base ≤ g → g < w.heap.size → w'.heap[g]? = w.heap[g]?) : OwnL w' base ls ao n cap :=
  ⟨h.len, own_keep h.row fun g hg hl => hk g (h.row.lt g hg).1 hl, fun v hv => own_keep (h.own v hv) fun g hg hl => hk g ((h.own v hv).lt g hg).1 hl⟩
theorem OwnL.snoc {w w' : World} {base : Nat} {ls : List L3} {ao ao' : Option Addr} {n cap cap' : Nat} {l : L3} (h : OwnL w base ls ao n cap) (hv : Own8 w base l.s.a l.s.len l.s.cap l.s.bs)
    (hrow : w'.ownsRow base 30 3 (.slice ao' (n + 1) cap') (n + 1) (ls.flatMap L3.cells ++ l.cells)) (hg : w.grownBy w' (Value.ownBlock (.slice ao n cap))) : OwnL w' base (ls ++ [l]) ao' (n + 1) cap' := by
  have k : ∀ u : L3, Own8 w base u.s.a u.s.len u.s.cap u.s.bs → Own8 w' base u.s.a u.s.len u.s.cap u.s.bs := fun u hu => own_keep hu fun g hb hl => hg.block g hl fun e => own_apart hu h.row (by decide) g hb e.symm
  refine ⟨by rw [List.length_append, h.len]; rfl, ?_, fun u hu => ?_⟩
  · rw [List.flatMap_append]
    simpa using hrow
  · rcases List.mem_append.1 hu with hu | hu
    · exact k u (h.own u hu)
    · rw [List.mem_singleton] at hu
      subst hu
      exact k u hv

theorem wpList_appendL {w : World} {ops : Array Oper} {rest : List Oper} {o : Oper} {a : Act} {Q : Exit → Act → World → Prop} (hgd : o.guard = none) (s x : Operand)
    (ho : o.op = .call { callee := .builtin .append, args := #[s, x], argTypes := #[52, 52] })
    (base : Nat) (ao : Option Addr) (n cap : Nat) (vs : List Value) (hs : a.eval s = .slice ao n cap) (hown : w.ownsRow base 30 3 (.slice ao n cap) n vs)
    (ax : Option Addr) (m c : Nat) (xs : List Value) (hx : a.eval x = .slice ax m c) (hrow : RowN w ax 3 m xs) (hnil : ax = none → c = 0) (h1 : ∀ u ∈ xs, u.oneCell' = true) (hbig : n + m ≤ 1000000000000) (hbase : base ≤ w.heap.size) (N : Nat) (hN : n + m = N)
    (h : ∀ ao' cap' w', w'.ownsRow base 30 3 (.slice ao' N cap') N (vs ++ xs) → w.grownBy w' (Value.ownBlock (.slice ao n cap)) →
      (Value.ownBlock (.slice ao' N cap') = Value.ownBlock (.slice ao n cap) ∨ Value.ownBlock (.slice ao' N cap') = some w.heap.size) → wpList Try.prog ops Q rest (a.put o.dst (.slice ao' N cap')) w') : wpList Try.prog ops Q (o :: rest) a w := by
  obtain ⟨i0, hi, hz0, hz1, hz2⟩ := info_parts info_letter
  exact wpList_append_row hgd s x _ ho base 30 i0 _ 3 40 Try.underlying52 hi hz0 hz1 hz2 rfl (by decide) ao n cap vs hs hown ax m c xs hx hrow.1 hrow.news hnil h1 (by simp only [maxLen]; omega) (by omega) hbase N hN h

/-- It returns letters that say this, in memory of its own. -/
def RetLetters (w : World) (n : Nat) (says : List (Int × Int × List UInt8)) (e : Ending) (w' : World) : Prop :=
  ∃ ls ao cap, e = .returned (.slice ao n cap) ∧ ls.map L3.says = says ∧ OwnL w' w.heap.size ls ao n cap ∧ Below w.heap.size w w'

set_option maxRecDepth 100000 in
set_option maxHeartbeats 3200000 in
theorem all_any (N : Nat) (most : Int) (ls : List L3) (ao : Option Addr) (n cap : Nat) (w : World) (h : NetAt w N most ls ao n cap) (hn : n ≤ 1000000000) (hbig : ∀ l ∈ ls, l.s.len ≤ 140737488355328) :
    Calls Try.prog 18 #[.pointer (some ⟨N, 0, none⟩)] w (RetLetters w n (ls.map L3.says)) := by
  obtain ⟨x0, x1, y0, y1⟩ := two_cells h.cell
  have H := Lib.hid h
  have HBIG := Lib.hid hbig
  clear h hbig
  go_enter Try.func18, Try.ntmps18
  go_wp2_with fail
  go_loopw [3, 11] (fun v i wr => ∃ (k : Nat) (us : List L3) (ak : Option Addr) (ck : Nat), k ≤ n ∧ i = .int .i64 k ∧ v = .slice ak k ck ∧ us.map L3.says = (ls.take k).map L3.says ∧ OwnL wr w.heap.size us ak k ck ∧ Below w.heap.size w wr) (fun _ i _ => n - (intOf i).toNat)
  case atStart => exact ⟨0, [], none, 0, by omega, rfl, rfl, rfl, OwnL.nil _ _, Below.refl _ _⟩
  case round =>
    obtain ⟨k, us, ak, ck, hk, rfl, rfl, hsay, hO, hbw⟩ := hrel
    have hsz := hbw.size
    have HS := Lib.hid hsay
    have HO := Lib.hid hO
    have HBW := Lib.hid hbw
    by_cases hlt : k < n
    · obtain ⟨l, hl⟩ : ∃ l, ls[k]? = some l := ⟨_, List.getElem?_eq_getElem (by rw [H.out.len]; exact hlt)⟩
      have hmem := List.mem_of_getElem? hl
      have hNw := H.out.below hbw
      obtain ⟨b, off, rfl, hc0, hc1, hc2⟩ := letters_at (RowN.of_own hNw.row) hNw.len k hlt l hl
      have hown := hNw.own l hmem
      have hlc := fun w' (hb : Below wr.heap.size wr w') => lclone_any l.f l.t l.s.a l.s.len l.s.cap l.s.bs w' (hown.row.below hb) (own_nil8 hown) (HBIG.out l hmem)
      have htk : (ls.take (k + 1)).map L3.says = (ls.take k).map L3.says ++ [l.says] := by rw [List.take_add_one, hl]; simp
      have HLC := Lib.hid hlc
      have HT := Lib.hid htk
      have hkl : (k : Int) < (n : Int) := by omega
      clear hsay hO hbw hl hmem hNw hown hlc htk
      go_wp2_with fail
      refine (HLC.out _ ((Below.refl _ _).alloc (Nat.le_refl _) _)).mono ?_
      rintro e w2 ⟨aq, cq, rfl, hown2, hb2⟩
      rw [World.size_alloc] at hown2 hb2
      have hz2 := hb2.size
      rw [World.size_alloc] at hz2
      have hO2 : ∀ o, OwnL (w2.alloc o) w.heap.size us ak k ck := fun o => HO.out.keep fun g hb hl => (heap_alloc_old w2 o (by omega)).trans ((hb2.block g (by omega)).trans (heap_alloc_old wr _ hl))
      have HO2 := Lib.hid hO2
      have hbw2 : Below w.heap.size w w2 := (HBW.out.alloc hsz _).trans (hb2.mono (by omega))
      have HBW2 := Lib.hid hbw2
      have HOWN2 := Lib.hid hown2
      clear hO2 hbw2 hown2 hb2
      go_wp2_with (at_builtin; refine wpList_appendL rfl (.tmp 15) (.tmp 18) rfl w.heap.size ak k ck (us.flatMap L3.cells) rfl (HO2.out _).row (some ⟨w2.heap.size, 0, none⟩) 1 1 (L3.cells ⟨l.f, l.t, ⟨aq, l.s.len, cq, l.s.bs⟩⟩) rfl (RowN.newH _ _ _ 3 1 _ _ rfl rfl rfl) (fun h => by cases h) (cells_one3 _) (by omega) (by rw [World.size_alloc]; omega) (k + 1) rfl ?_; intro ao3 cap3 w3 hown3 hg3 hat3)
      go_roundw
      case rel =>
        refine ⟨k + 1, us ++ [⟨l.f, l.t, ⟨aq, l.s.len, cq, l.s.bs⟩⟩], ao3, cap3, by omega, by go_num, rfl, ?_, OwnL.snoc (l := ⟨l.f, l.t, ⟨aq, l.s.len, cq, l.s.bs⟩⟩) (HO2.out _) (own_more (own_keep HOWN2.out fun g hg hl => heap_alloc_old w2 _ hl) (by omega)) hown3 hg3, (HBW2.out.alloc (by omega) _).grown hg3 (by rw [World.size_alloc]; omega) (fun g hg => ((HO.out.row).lt g hg).1)⟩
        rw [List.map_append, HS.out, HT.out]
        rfl
      case measure => simp [intOf]; omega
    · have hke : k = n := by omega
      subst hke
      have ht : ls.take k = ls := List.take_of_length_le (by rw [H.out.len]; exact Nat.le_refl _)
      rw [ht] at hsay
      have HS' := Lib.hid hsay
      clear hsay ht hO hbw
      go_wp2_with fail
      go_ret
      exact ⟨us, ak, ck, rfl, HS'.out, HO.out, HBW.out⟩
end Go.Proofs.Ytnjbhjgihcgefaa
