/- A net's All: the letters' bytes lie in blocks that differ. -/
import Derived.Test.YtnjbhjgihcgefaaAlive
namespace Go.Proofs.Ytnjbhjgihcgefaa
open Go.RowKit

/-- the letters' bytes lie in blocks that differ -/
def Parted (us : List L3) : Prop := us.Pairwise fun x y => ∀ g, Value.ownBlock (.slice x.s.a 0 0) = some g → Value.ownBlock (.slice y.s.a 0 0) ≠ some g
theorem Parted.snoc {us : List L3} {l : L3} {B : Nat} (h : Parted us) (h1 : ∀ x ∈ us, ∀ g, Value.ownBlock (.slice x.s.a 0 0) = some g → g < B) (h2 : ∀ g, Value.ownBlock (.slice l.s.a 0 0) = some g → B ≤ g) : Parted (us ++ [l]) :=
  List.pairwise_append.2 ⟨h, List.pairwise_singleton _ _, fun x hx y hy g hg e => by
    rw [List.mem_singleton] at hy
    subst hy
    have := h1 x hx g hg
    have := h2 g e
    omega⟩

/-- It returns letters that say this, in memory of its own, no two in one block. -/
def RetLetters2 (w : World) (n : Nat) (says : List (Int × Int × List UInt8)) (e : Ending) (w' : World) : Prop :=
  ∃ ls ao cap, e = .returned (.slice ao n cap) ∧ ls.map L3.says = says ∧ OwnL w' w.heap.size ls ao n cap ∧ Parted ls ∧ Below w.heap.size w w'

set_option maxRecDepth 100000 in
set_option maxHeartbeats 3200000 in
theorem all_apart (N : Nat) (most : Int) (ls : List L3) (ao : Option Addr) (n cap : Nat) (w : World) (h : NetAt w N most ls ao n cap) (hn : n ≤ 1000000000) (hbig : ∀ l ∈ ls, l.s.len ≤ 140737488355328) :
    Calls Try.prog 18 #[.pointer (some ⟨N, 0, none⟩)] w (RetLetters2 w n (ls.map L3.says)) := by
  obtain ⟨x0, x1, y0, y1⟩ := two_cells h.cell
  have H := Lib.hid h
  have HBIG := Lib.hid hbig
  clear h hbig
  go_enter Try.func18, Try.ntmps18
  go_wp2_with fail
  go_loopw [3, 11] (fun v i wr => ∃ (k : Nat) (us : List L3) (ak : Option Addr) (ck : Nat), k ≤ n ∧ i = .int .i64 k ∧ v = .slice ak k ck ∧ us.map L3.says = (ls.take k).map L3.says ∧ OwnL wr w.heap.size us ak k ck ∧ Hid (Parted us) ∧ Below w.heap.size w wr) (fun _ i _ => n - (intOf i).toNat)
  case atStart => exact ⟨0, [], none, 0, by omega, rfl, rfl, rfl, OwnL.nil _ _, (show Parted [] from List.Pairwise.nil), Below.refl _ _⟩
  case round =>
    obtain ⟨k, us, ak, ck, hk, rfl, rfl, hsay, hO, HP, hbw⟩ := hrel
    have hsz := hbw.size
    have HS := Lib.hid hsay
    have HO := Lib.hid hO
    have HBW := Lib.hid hbw
    by_cases hlt : k < n
    · obtain ⟨l, hl⟩ : ∃ l, ls[k]? = some l := ⟨_, List.getElem?_eq_getElem (by rw [H.out.len]; exact hlt)⟩
      have hmem := List.mem_of_getElem? hl
      have hNw := H.out.below hbw
      obtain ⟨b, off, rfl, hc0, hc1, hc2⟩ := letters_at (RowN.of_own hNw.row) hNw.len k hlt l hl
      have hown := hNw.own l hmem
      have hlc := fun w' (hb : Below wr.heap.size wr w') => lclone_any l.f l.t l.s.a l.s.len l.s.cap l.s.bs w' (hown.row.below hb) (own_nil8 hown) (HBIG.out l hmem)
      have htk : (ls.take (k + 1)).map L3.says = (ls.take k).map L3.says ++ [l.says] := by rw [List.take_add_one, hl]; simp
      have HLC := Lib.hid hlc
      have HT := Lib.hid htk
      have hkl : (k : Int) < (n : Int) := by omega
      clear hsay hO hbw hl hmem hNw hown hlc htk
      go_wp2_with fail
      refine (HLC.out _ ((Below.refl _ _).alloc (Nat.le_refl _) _)).mono ?_
      rintro e w2 ⟨aq, cq, rfl, hown2, hb2⟩
      rw [World.size_alloc] at hown2 hb2
      have hz2 := hb2.size
      rw [World.size_alloc] at hz2
      have hO2 : ∀ o, OwnL (w2.alloc o) w.heap.size us ak k ck := fun o => HO.out.keep fun g hb hl => (heap_alloc_old w2 o (by omega)).trans ((hb2.block g (by omega)).trans (heap_alloc_old wr _ hl))
      have HO2 := Lib.hid hO2
      have hbw2 : Below w.heap.size w w2 := (HBW.out.alloc hsz _).trans (hb2.mono (by omega))
      have HBW2 := Lib.hid hbw2
      have HOWN2 := Lib.hid hown2
      clear hO2 hbw2 hown2 hb2
      go_wp2_with (at_builtin; refine wpList_appendL rfl (.tmp 15) (.tmp 18) rfl w.heap.size ak k ck (us.flatMap L3.cells) rfl (HO2.out _).row (some ⟨w2.heap.size, 0, none⟩) 1 1 (L3.cells ⟨l.f, l.t, ⟨aq, l.s.len, cq, l.s.bs⟩⟩) rfl (RowN.newH _ _ _ 3 1 _ _ rfl rfl rfl) (fun h => by cases h) (cells_one3 _) (by omega) (by rw [World.size_alloc]; omega) (k + 1) rfl ?_; intro ao3 cap3 w3 hown3 hg3 hat3)
      go_roundw
      case rel =>
        refine ⟨k + 1, us ++ [⟨l.f, l.t, ⟨aq, l.s.len, cq, l.s.bs⟩⟩], ao3, cap3, by omega, by go_num, rfl, ?_, OwnL.snoc (l := ⟨l.f, l.t, ⟨aq, l.s.len, cq, l.s.bs⟩⟩) (HO2.out _) (own_more (own_keep HOWN2.out fun g hg hl => heap_alloc_old w2 _ hl) (by omega)) hown3 hg3, (show Parted _ from HP.out.snoc (fun x hx g hg => by have := ((HO.out.own x hx).lt g ((own_addr _ _ _ 0 0).trans hg)).2; exact this) (fun g hg => by have := (HOWN2.out.lt g ((own_addr _ _ _ 0 0).trans hg)).1; omega)), (HBW2.out.alloc (by omega) _).grown hg3 (by rw [World.size_alloc]; omega) (fun g hg => ((HO.out.row).lt g hg).1)⟩
        rw [List.map_append, HS.out, HT.out]
        rfl
      case measure => simp [intOf]; omega
    · have hke : k = n := by omega
      subst hke
      have ht : ls.take k = ls := List.take_of_length_le (by rw [H.out.len]; exact Nat.le_refl _)
      rw [ht] at hsay
      have HS' := Lib.hid hsay
      clear hsay ht hO hbw
      go_wp2_with fail
      go_ret
      exact ⟨us, ak, ck, rfl, HS'.out, HO.out, HP.out, HBW.out⟩
end Go.Proofs.Ytnjbhjgihcgefaa
