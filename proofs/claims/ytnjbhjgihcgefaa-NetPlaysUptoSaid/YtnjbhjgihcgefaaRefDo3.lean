/- The document's Do: Send, Double. -/
import Derived.Test.YtnjbhjgihcgefaaRefDo2
namespace Go.Proofs.Ytnjbhjgihcgefaa
open Go.RowKit

/-- the last stores of Do -/
theorem do_last {w X w3 : World} {P : Nat → Prop} {us' : List L3} {a' : Option Addr} {n' Z : Nat} {s : Sl} {S : List Nat} (hX : Below w.heap.size w X) (hXs : w.heap.size + 4 ≤ X.heap.size) (hZ : w.heap.size + 4 ≤ Z) (hS : ∀ k ∈ S, w.heap.size ≤ k ∧ k ≠ w.heap.size + 2 ∧ k ≠ w.heap.size + 3) (ht : Touch S X w3) {p0 p1 q0 q1 q2 : Value}
    (hC : X.heap[w.heap.size + 2]? = some (.cells #[p0, p1] 40 (0, 0))) (hD : X.heap[w.heap.size + 3]? = some (.cells #[q0, q1, q2] 45 (0, 0)))
    (hR : RefAt w3 (Apart P w.heap.size Z) us' a' n') (hs : Sl.ok w3 s) (hsp : SlP (Apart P w.heap.size Z) s) (m0 m1 l0 l1 l2 : Value) :
    (((((w3.setCell ⟨w.heap.size + 2, 0, none⟩ m0).setCell ⟨w.heap.size + 2, 1, none⟩ m1).setCell ⟨w.heap.size + 3, 0, none⟩ l0).setCell ⟨w.heap.size + 3, 1, none⟩ l1).setCell ⟨w.heap.size + 3, 2, none⟩ l2).heap[w.heap.size + 2]? = some (.cells #[m0, m1] 40 (0, 0)) ∧
    (((((w3.setCell ⟨w.heap.size + 2, 0, none⟩ m0).setCell ⟨w.heap.size + 2, 1, none⟩ m1).setCell ⟨w.heap.size + 3, 0, none⟩ l0).setCell ⟨w.heap.size + 3, 1, none⟩ l1).setCell ⟨w.heap.size + 3, 2, none⟩ l2).heap[w.heap.size + 3]? = some (.cells #[l0, l1, l2] 45 (0, 0)) ∧
    RefAt (((((w3.setCell ⟨w.heap.size + 2, 0, none⟩ m0).setCell ⟨w.heap.size + 2, 1, none⟩ m1).setCell ⟨w.heap.size + 3, 0, none⟩ l0).setCell ⟨w.heap.size + 3, 1, none⟩ l1).setCell ⟨w.heap.size + 3, 2, none⟩ l2) P us' a' n' ∧
    Sl.ok (((((w3.setCell ⟨w.heap.size + 2, 0, none⟩ m0).setCell ⟨w.heap.size + 2, 1, none⟩ m1).setCell ⟨w.heap.size + 3, 0, none⟩ l0).setCell ⟨w.heap.size + 3, 1, none⟩ l1).setCell ⟨w.heap.size + 3, 2, none⟩ l2) s ∧
    Below w.heap.size w (((((w3.setCell ⟨w.heap.size + 2, 0, none⟩ m0).setCell ⟨w.heap.size + 2, 1, none⟩ m1).setCell ⟨w.heap.size + 3, 0, none⟩ l0).setCell ⟨w.heap.size + 3, 1, none⟩ l1).setCell ⟨w.heap.size + 3, 2, none⟩ l2) := by
  have hz := ht.size
  have hT : Touch [w.heap.size + 2, w.heap.size + 3] w3 (((((w3.setCell ⟨w.heap.size + 2, 0, none⟩ m0).setCell ⟨w.heap.size + 2, 1, none⟩ m1).setCell ⟨w.heap.size + 3, 0, none⟩ l0).setCell ⟨w.heap.size + 3, 1, none⟩ l1).setCell ⟨w.heap.size + 3, 2, none⟩ l2) :=
    (((((Touch.refl _ _).trans (Touch.set _ _ _ _ (by simp))).trans (Touch.set _ _ _ _ (by simp))).trans (Touch.set _ _ _ _ (by simp))).trans (Touch.set _ _ _ _ (by simp))).trans (Touch.set _ _ _ _ (by simp))
  have hNot : ∀ b, Apart P w.heap.size Z b → b ∉ [w.heap.size + 2, w.heap.size + 3] := fun b hp hm => by
    have := hp.2
    simp at hm
    omega
  have h2 := (ht.block (w.heap.size + 2) (by omega) (fun h => (hS _ h).2.1 rfl)).trans hC
  have h3 := (ht.block (w.heap.size + 3) (by omega) (fun h => (hS _ h).2.2 rfl)).trans hD
  have k : ∀ (Z : World) (i : Nat) (v : Value), (Z.setCell ⟨w.heap.size + 3, i, none⟩ v).heap[w.heap.size + 2]? = Z.heap[w.heap.size + 2]? := fun Z i v => Below.heap_setCell Z _ _ _ (by simp)
  have k' : ∀ (Z : World) (i : Nat) (v : Value), (Z.setCell ⟨w.heap.size + 2, i, none⟩ v).heap[w.heap.size + 3]? = Z.heap[w.heap.size + 3]? := fun Z i v => Below.heap_setCell Z _ _ _ (by simp)
  refine ⟨?_, ?_, (hR.touch hT hNot).mono fun b hp => hp.1, hs.touch hsp hT hNot, hT.below (ht.below hX (by omega) (fun k hk => (hS k hk).1)) (by omega) (fun k hk => by simp at hk; omega)⟩
  · rw [k, k, k]
    exact set_block (i := 1) (set_block (i := 0) h2 m0) m1
  · exact set_block (i := 2) (set_block (i := 1) (set_block (i := 0) ((k' _ _ _).trans ((k' _ _ _).trans h3)) l0) l1) l2
theorem not_apart {P : Nat → Prop} {B C : Nat} {S : List Nat} (hS : ∀ k ∈ S, B ≤ k ∧ k < C) : ∀ b, Apart P B C b → b ∉ S := fun b hp hm => by
  have h1 := hp.2
  have h2 := hS b hm
  omega

def fiveBox (w : World) (A B C D E : Obj) : World := ((((w.alloc A).alloc B).alloc C).alloc D).alloc E
theorem five_size (w : World) (A B C D E : Obj) : (fiveBox w A B C D E).heap.size = w.heap.size + 5 := by unfold fiveBox; simp
theorem five_below (w : World) (A B C D E : Obj) : Below w.heap.size w (fiveBox w A B C D E) := (four_below w A B C D).alloc (by simp; omega) _
theorem five_a (w : World) (A B C D E : Obj) : (fiveBox w A B C D E).heap[w.heap.size]? = some A := (heap_alloc_old _ _ (by simp; omega)).trans (four_a w A B C D)
theorem five_c (w : World) (A B C D E : Obj) : (fiveBox w A B C D E).heap[w.heap.size + 2]? = some C := (heap_alloc_old _ _ (by simp)).trans (four_c w A B C D)
theorem five_d (w : World) (A B C D E : Obj) : (fiveBox w A B C D E).heap[w.heap.size + 3]? = some D := (heap_alloc_old _ _ (by simp)).trans (four_d w A B C D)
theorem five_e (w : World) (A B C D E : Obj) : (fiveBox w A B C D E).heap[w.heap.size + 4]? = some E := by
  have h := heap_alloc_new ((((w.alloc A).alloc B).alloc C).alloc D) E
  rw [four_size] at h
  exact h

set_option maxRecDepth 100000 in
set_option maxHeartbeats 3200000 in
/-- a Send that finds room -/
theorem rdo_send (P : Nat → Prop) (us : List L3) (most : Int) (a : Option Addr) (n c : Nat) (o : OpL) (w : World) (h : RefAt w P us a n) (hkd : o.kd = 1) (hm : (n : Int) < most) (ho : Sl.ok w o.s) (hop : SlP P o.s) (hnew : ∀ b, w.heap.size ≤ b → P b) (hbig : n ≤ 1000000) :
    Calls Try.prog 15 #[.agg #[.int .i64 most, .slice a n c], .agg #[.int .i64 o.kd, .int .i64 o.i, .int .i64 o.k, .int .i64 o.f, .int .i64 o.t, .slice o.s.a o.s.len o.s.cap]] w (RefDo w P most (us.map L3.says ++ [(o.f, o.t, o.s.bs)], true, zSays)) := by
  obtain ⟨kd, oi, ok, of, ot, os⟩ := o
  simp only at hkd ho hop ⊢
  subst hkd
  have hm' : ¬ (n : Int) ≥ most := by omega
  obtain ⟨X, hX⟩ : ∃ X, X = fiveBox w (.cells #[.int .i64 most, .slice a n c] 40) (.cells #[.int .i64 1, .int .i64 oi, .int .i64 ok, .int .i64 of, .int .i64 ot, .slice os.a os.len os.cap] 50) (.cells #[.int .i64 0, .slice none 0 0] 40) (.cells #[.int .i64 0, .int .i64 0, .slice none 0 0] 45) (.cells #[.int .i64 of, .int .i64 ot, .slice os.a os.len os.cap] 45) := ⟨_, rfl⟩
  have hXb : Below w.heap.size w X := hX ▸ five_below _ _ _ _ _ _
  have hXs : X.heap.size = w.heap.size + 5 := hX ▸ five_size _ _ _ _ _ _
  have hA := hX ▸ five_a w _ _ _ _ _
  have hC := hX ▸ five_c w _ _ _ _ _
  have hD := hX ▸ five_d w _ _ _ _ _
  have hE := hX ▸ five_e w _ _ _ _ _
  have hmore : RefAt X (Apart P w.heap.size (w.heap.size + 4)) [⟨of, ot, os⟩] (some ⟨w.heap.size + 4, 0, none⟩) 1 :=
    ⟨rfl, RowN.of_block hE rfl rfl, fun u hu => by rw [List.mem_singleton] at hu; subst hu; exact ⟨ho.below hXb, SlP.apart ho hop _⟩, fun b off e _ => ⟨hnew b (by injection e with e; injection e with e; omega), .inr (by injection e with e; injection e with e; omega)⟩⟩
  have hcall := rlist_any (Apart P w.heap.size (w.heap.size + 4)) us [⟨of, ot, os⟩] most (-1) ⟨0, 0, ⟨none, 0, 0, []⟩⟩ a (some ⟨w.heap.size + 4, 0, none⟩) n c 1 1 X ((h.apart _).below hXb) ⟨Sl.nil_ok _, fun _ _ e => by cases e⟩ hmore (fun b hb => ⟨hnew b (by omega), .inr (by omega)⟩) (by omega)
  rw [setAt_neg] at hcall
  have HC := Lib.hid hcall
  have HX := Lib.hid hX
  have HXB := Lib.hid hXb
  have HCC := Lib.hid hC
  have HDD := Lib.hid hD
  have HA := Lib.hid hA
  rw [hX] at HC
  clear hcall hX hXb hC hD hA hE hmore h ho hop hnew
  go_enter Try.func15, Try.ntmps15
  go_wp2_with fail
  refine (HC.out).mono ?_
  rintro e w2 ⟨a2, c2, rfl, hR2, hb2⟩
  rw [← HX.out] at hb2
  have hz2 := hb2.size
  obtain ⟨x0, x1, f0, f1⟩ := two_cells ((hb2.block w.heap.size (by omega)).trans HA.out)
  obtain ⟨y0, y1, g0, g1⟩ := two_cells ((hb2.block (w.heap.size + 2) (by omega)).trans HCC.out)
  obtain ⟨z0, z1, z2, k0, k1, k2⟩ := three_cells ((hb2.block (w.heap.size + 3) (by omega)).trans HDD.out)
  have HR2 := Lib.hid hR2
  have HB2 := Lib.hid hb2
  clear hR2 hb2
  go_wp2_with fail
  have ht := Touch.set (S := [w.heap.size]) w2 w.heap.size 1 (.slice a2 (n + 1) c2) (by simp)
  obtain ⟨e1, e2, e3, e4, e5⟩ := do_last (s := ⟨none, 0, 0, []⟩) HXB.out (by omega) (Nat.le_refl _) (fun k hk => by simp at hk; omega) ((Touch.of_below HB2.out).trans ht) HCC.out HDD.out (HR2.out.touch ht (not_apart fun k hk => by simp at hk; omega)) (Sl.nil_ok _) (fun _ _ e => by cases e) (.int .i64 most) (.slice a2 (n + 1) c2) (.int .i64 0) (.int .i64 0) (.slice none 0 0)
  exact bodyPost_ret (results_cells_tmp Try.results15 rfl (load_two_ref e1) rfl (load_three_ref e2)) rfl (RefDo.mk (s := ⟨none, 0, 0, []⟩) rfl rfl (by rw [List.map_append]; rfl) e3 e4 e5)
end Go.Proofs.Ytnjbhjgihcgefaa
