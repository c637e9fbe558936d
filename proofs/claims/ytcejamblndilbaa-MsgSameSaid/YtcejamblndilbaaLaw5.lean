/- MsgSame: the walk. -/
import Derived.Test.YtcejamblndilbaaQ9
import Derived.Test.YtcejamblndilbaaAl2
import Derived.Deep.RegionHeld3
namespace Go.Proofs.Ytcejamblndilbaa
open Go.RowKit

theorem yieldsIf_loadM {ops : Array Oper} {S : World → Prop} {op : Oper} {a : Act} (hw : Region.wanted op (yielded ops a.tmps) = true) (x : Operand) (ho : op.op = .load 28 x)
    (C : Nat) (m : Ms) (hx : a.eval x = .pointer (some ⟨C, 0, none⟩)) (hS : ∀ w, S w → ∃ t, w.heap[C]? = some (.cells m.cs t (0, 0))) : YieldsIf Try.prog ops S op (.agg m.cs) a := by
  have := yieldsIf_load_mid (P := Try.prog) (S := S) hw 28 x ho C 0 hx m.cs.toList _ (fun w h j v hv => by
    obtain ⟨t, hC⟩ := hS w h
    simp only [World.cell?, hC, Nat.zero_add]
    rw [← hv]; simp) Try.underlying28 rfl (by show _ = some 14; kernel_rfl)
  simpa using this

set_option maxRecDepth 100000 in
set_option maxHeartbeats 32000000 in
theorem msgSame_f (a b : Ms) (w : World) (ha : MsOk w a) (hca : CLen a) (hb : MsOk w b) (hcb : CLen b) (h1 : rightM a = false) :
    Calls Try.prog 7 #[.agg a.cs, .agg b.cs] w fun e w' => e = .returned (.bool true) ∧ Below w.heap.size w w' := by
  obtain ⟨post, hpost⟩ : ∃ post : Ending → World → Prop, post = fun e w' => e = .returned (.bool true) ∧ Below w.heap.size w w' := ⟨_, rfl⟩
  rw [← hpost]
  have hP : ∀ w', Below w.heap.size w w' → post (.returned (.bool true)) w' := fun w' h => by rw [hpost]; exact ⟨rfl, h⟩
  have HP := Lib.hid hP
  obtain ⟨A, hA⟩ : ∃ A, A = w.heap.size := ⟨_, rfl⟩
  obtain ⟨C, hC⟩ : ∃ C, C = w.heap.size + 1 := ⟨_, rfl⟩
  obtain ⟨X0, hX⟩ : ∃ X, X = (w.alloc (.cells a.cs 28)).alloc (.cells b.cs 28) := ⟨_, rfl⟩
  have hXb : Below w.heap.size w X0 := hX ▸ below_alloc (below_alloc (Below.refl _ _) _) _
  have hXa : X0.heap[A]? = some (.cells a.cs 28 (0, 0)) := hX ▸ hA ▸ (heap_alloc_old _ _ (by rw [World.size_alloc]; omega)).trans (heap_alloc_new w _)
  have hXc : X0.heap[C]? = some (.cells b.cs 28 (0, 0)) := by have := heap_alloc_new (w.alloc (.cells a.cs 28)) (.cells b.cs 28); rw [World.size_alloc] at this; rw [hX, hC]; exact this
  have HX := Lib.hid hX
  have HXB := Lib.hid hXb
  have HXA := Lib.hid hXa
  have HXC := Lib.hid hXc
  have HA := Lib.hid ha
  have HB := Lib.hid hb
  have HCA := Lib.hid hca
  have HCB := Lib.hid hcb
  have HA0 := Lib.hid hA
  have HC0 := Lib.hid hC
  clear hpost hP hX hXb hXa hXc ha hb hca hcb hA hC
  go_enter Try.func7, Try.ntmps7
  go_upto_region 1 with fail
  rw [← HX.out, ← HC0.out, ← HA0.out]
  go_wp2_with fail
  refine (alive17_any X0).mono ?_
  rintro e X ⟨rfl, hb1⟩
  have hwX : Below w.heap.size w X := below_then HXB.out hb1
  have hxa := (hb1.block _ (Array.getElem?_eq_some_iff.1 HXA.out).1).trans HXA.out
  have hxc := (hb1.block _ (Array.getElem?_eq_some_iff.1 HXC.out).1).trans HXC.out
  have hla := (Array.getElem?_eq_some_iff.1 hxa).1
  have hlc := (Array.getElem?_eq_some_iff.1 hxc).1
  have hma := HA.out.below hwX
  have hmb := HB.out.below hwX
  have hXX : ∀ Z, Below X.heap.size X Z → Z.heap[A]? = some (.cells a.cs 28 (0, 0)) ∧ Z.heap[C]? = some (.cells b.cs 28 (0, 0)) := fun Z hZ => ⟨(hZ.block _ hla).trans hxa, (hZ.block _ hlc).trans hxc⟩
  have hsame : ∀ Z, Below X.heap.size X Z → Calls Try.prog 18 #[.agg a.cs, .agg b.cs] Z (fun e w' => e = .returned (.bool (rightM a && (rightM b && sameM a b))) ∧ Below X.heap.size X w') := fun Z hZ => (msame_any a b Z (hma.below hZ) (hmb.below hZ) HCA.out HCB.out).mono fun e w' h => ⟨h.1, below_then hZ h.2⟩
  have hra : ∀ Z, Below X.heap.size X Z → Calls Try.prog 14 #[.agg a.cs] Z (fun e w' => e = .returned (.bool (rightM a)) ∧ Below X.heap.size X w') := fun Z hZ => (rright17_any a Z (hma.below hZ) HCA.out).mono fun e w' h => ⟨h.1, below_then hZ h.2⟩
  have hrb : ∀ Z, Below X.heap.size X Z → Calls Try.prog 14 #[.agg b.cs] Z (fun e w' => e = .returned (.bool (rightM b)) ∧ Below X.heap.size X w') := fun Z hZ => (rright17_any b Z (hmb.below hZ) HCB.out).mono fun e w' h => ⟨h.1, below_then hZ h.2⟩
  have heq : ∀ Z, Below X.heap.size X Z → Calls Try.prog 16 #[.agg a.cs, .agg b.cs] Z (fun e w' => e = .returned (.bool (sameM a b)) ∧ Below X.heap.size X w') := fun Z hZ => (requal_any a b Z (hma.below hZ) (hmb.below hZ) HCA.out).mono fun e w' h => ⟨h.1, below_then hZ h.2⟩
  obtain ⟨sm, esm⟩ : ∃ sm, sm = sameM a b := ⟨_, rfl⟩
  rw [← esm] at hsame heq
  rw [h1] at hsame hra
  clear h1
  simp only [Bool.false_and] at hsame
  have HXX := Lib.hid hXX
  have HSAME := Lib.hid hsame
  have HRA := Lib.hid hra
  have HRB := Lib.hid hrb
  have HEQ := Lib.hid heq
  have HWX := Lib.hid hwX
  clear esm hXX hsame hra hrb heq hwX hxa hxc hla hlc hma hmb hb1 HXA HXC HA HB HX HXB HCA HCB HA0 HC0
  go_upto_region 3 with fail
  refine wp_region_noPanic ?_
  refine wp_region_held_drew (S := fun w' => Below X.heap.size X w') (by kernel_rfl) (Below.refl X.heap.size X).drew (fun hHeld => ?_)
  refine wpAnyH_take (i := 0) (oi := { dst := some 7, op := .load 28 (.tmp 2), type := 28, pos := "law.go:102", after := #[], guard := none }) (v := .agg a.cs) rfl (by kernel_rfl) (by kernel_rfl) (by kernel_rfl) (fun _ _ _ h => h) (yieldsIf_loadM (by rfl) (.tmp 2) rfl A a rfl (fun w hS => ⟨_, (HXX.out w hS).1⟩)) (by assumption) ?_
  simp only [Act.put, List.setIfInBounds_toArray, List.set_cons_zero, List.set_cons_succ]
  refine wpAnyH_take (i := 1) (oi := { dst := some 8, op := .load 28 (.tmp 3), type := 28, pos := "law.go:102", after := #[], guard := none }) (v := .agg b.cs) rfl (by kernel_rfl) (by kernel_rfl) (by kernel_rfl) (fun _ _ _ h => h) (yieldsIf_loadM (by rfl) (.tmp 3) rfl C b rfl (fun w hS => ⟨_, (HXX.out w hS).2⟩)) (by assumption) ?_
  simp only [Act.put, List.setIfInBounds_toArray, List.set_cons_zero, List.set_cons_succ]
  refine wpAnyH_take (i := 3) (oi := { dst := some 10, op := .load 28 (.tmp 2), type := 28, pos := "law.go:102", after := #[], guard := none }) (v := .agg a.cs) rfl (by kernel_rfl) (by kernel_rfl) (by kernel_rfl) (fun _ _ _ h => h) (yieldsIf_loadM (by rfl) (.tmp 2) rfl A a rfl (fun w hS => ⟨_, (HXX.out w hS).1⟩)) (by assumption) ?_
  simp only [Act.put, List.setIfInBounds_toArray, List.set_cons_zero, List.set_cons_succ]
  refine wpAnyH_ready (rs := [2]) (by kernel_rfl) (by simp) ?_
  refine AllReadyH.cons (o := { dst := some 9, op := .call { callee := .value (.func 18), args := #[.tmp 7, .tmp 8], argTypes := #[28, 28] }, type := 4, pos := "law.go:102", after := #[{ on := 0, ground := .data }, { on := 1, ground := .data }], guard := none }) rfl (fun K hK => ?_) AllReadyH.nil
  go_simp
  refine (HSAME.out _ (by assumption)).mono ?_
  rintro e y2 ⟨rfl, hb⟩
  refine hK.out _ _ hb (fun hHeld2 => ?_)
  clear hK K hb
  refine wpAnyH_ready (rs := [4]) (by kernel_rfl) (by simp) ?_
  refine AllReadyH.cons (o := { dst := some 11, op := .call { callee := .value (.func 14), args := #[.tmp 10], argTypes := #[28] }, type := 4, pos := "law.go:102", after := #[{ on := 3, ground := .data }, { on := 2, ground := .chain }], guard := none }) rfl (fun K hK => ?_) AllReadyH.nil
  go_simp
  refine (HRA.out _ (by assumption)).mono ?_
  rintro e y4 ⟨rfl, hb⟩
  refine hK.out _ _ hb (fun hHeld4 => ?_)
  clear hK K hb
  refine wpAnyH_take (i := 5) (oi := { dst := some 12, op := .move (.tmp 11), type := 4, pos := "law.go:102", after := #[{ on := 4, ground := .data }, { on := 4, ground := .chain }], guard := none }) (v := .bool false) rfl (by kernel_rfl) (by kernel_rfl) (by kernel_rfl) (fun _ _ _ h => h) (Or.inl ⟨by rfl, fun w hS => by go_simp⟩) (by assumption) ?_
  simp only [Act.put, List.setIfInBounds_toArray, List.set_cons_zero, List.set_cons_succ]
  refine wpAnyH_take (i := 6) (oi := { dst := some 13, op := .load 28 (.tmp 3), type := 28, pos := "law.go:102", after := #[{ on := 5, ground := .guard }], guard := some (5, true) }) (v := undef) rfl (by kernel_rfl) (by kernel_rfl) (by kernel_rfl) (fun _ _ _ h => h) (Or.inr ⟨by rfl, rfl⟩) (by assumption) ?_
  simp only [Act.put, List.setIfInBounds_toArray, List.set_cons_zero, List.set_cons_succ]
  refine wpAnyH_take (i := 7) (oi := { dst := some 14, op := .call { callee := .value (.func 14), args := #[.tmp 13], argTypes := #[28] }, type := 4, pos := "law.go:102", after := #[{ on := 6, ground := .data }, { on := 5, ground := .chain }, { on := 5, ground := .guard }], guard := some (5, true) }) (v := undef) rfl (by kernel_rfl) (by kernel_rfl) (by kernel_rfl) (fun _ _ _ h => h) (Or.inr ⟨by rfl, rfl⟩) (by assumption) ?_
  simp only [Act.put, List.setIfInBounds_toArray, List.set_cons_zero, List.set_cons_succ]
  refine wpAnyH_take (i := 8) (oi := { dst := some 15, op := .pick (.tmp 12) (.tmp 14) (.const (.bool false)), type := 4, pos := "law.go:102", after := #[{ on := 5, ground := .data }, { on := 7, ground := .data }], guard := none }) (v := .bool false) rfl (by kernel_rfl) (by kernel_rfl) (by kernel_rfl) (fun _ _ _ h => h) (Or.inl ⟨by rfl, fun w hS => by go_simp⟩) (by assumption) ?_
  simp only [Act.put, List.setIfInBounds_toArray, List.set_cons_zero, List.set_cons_succ]
  refine wpAnyH_take (i := 9) (oi := { dst := some 16, op := .move (.tmp 15), type := 4, pos := "law.go:102", after := #[{ on := 8, ground := .data }, { on := 7, ground := .chain }], guard := none }) (v := .bool false) rfl (by kernel_rfl) (by kernel_rfl) (by kernel_rfl) (fun _ _ _ h => h) (Or.inl ⟨by rfl, fun w hS => by go_simp⟩) (by assumption) ?_
  simp only [Act.put, List.setIfInBounds_toArray, List.set_cons_zero, List.set_cons_succ]
  refine wpAnyH_take (i := 10) (oi := { dst := some 17, op := .load 28 (.tmp 2), type := 28, pos := "law.go:102", after := #[{ on := 9, ground := .guard }], guard := some (9, true) }) (v := undef) rfl (by kernel_rfl) (by kernel_rfl) (by kernel_rfl) (fun _ _ _ h => h) (Or.inr ⟨by rfl, rfl⟩) (by assumption) ?_
  simp only [Act.put, List.setIfInBounds_toArray, List.set_cons_zero, List.set_cons_succ]
  refine wpAnyH_take (i := 11) (oi := { dst := some 18, op := .load 28 (.tmp 3), type := 28, pos := "law.go:102", after := #[{ on := 9, ground := .guard }], guard := some (9, true) }) (v := undef) rfl (by kernel_rfl) (by kernel_rfl) (by kernel_rfl) (fun _ _ _ h => h) (Or.inr ⟨by rfl, rfl⟩) (by assumption) ?_
  simp only [Act.put, List.setIfInBounds_toArray, List.set_cons_zero, List.set_cons_succ]
  refine wpAnyH_take (i := 12) (oi := { dst := some 19, op := .call { callee := .value (.func 16), args := #[.tmp 17, .tmp 18], argTypes := #[28, 28] }, type := 4, pos := "law.go:102", after := #[{ on := 10, ground := .data }, { on := 11, ground := .data }, { on := 9, ground := .chain }, { on := 9, ground := .guard }], guard := some (9, true) }) (v := undef) rfl (by kernel_rfl) (by kernel_rfl) (by kernel_rfl) (fun _ _ _ h => h) (Or.inr ⟨by rfl, rfl⟩) (by assumption) ?_
  simp only [Act.put, List.setIfInBounds_toArray, List.set_cons_zero, List.set_cons_succ]
  refine wpAnyH_take (i := 13) (oi := { dst := some 20, op := .pick (.tmp 16) (.tmp 19) (.const (.bool false)), type := 4, pos := "law.go:102", after := #[{ on := 9, ground := .data }, { on := 12, ground := .data }], guard := none }) (v := .bool false) rfl (by kernel_rfl) (by kernel_rfl) (by kernel_rfl) (fun _ _ _ h => h) (Or.inl ⟨by rfl, fun w hS => by go_simp⟩) (by assumption) ?_
  simp only [Act.put, List.setIfInBounds_toArray, List.set_cons_zero, List.set_cons_succ]
  refine wpAnyH_take (i := 14) (oi := { dst := some 21, op := .binOp .eql 4 (.tmp 9) (.tmp 20) 4, type := 4, pos := "law.go:102", after := #[{ on := 2, ground := .data }, { on := 13, ground := .data }], guard := none }) (v := .bool true) rfl (by kernel_rfl) (by kernel_rfl) (by kernel_rfl) (fun _ _ _ h => h) (Or.inl ⟨by rfl, fun w hS => by go_simp⟩) (by assumption) ?_
  simp only [Act.put, List.setIfInBounds_toArray, List.set_cons_zero, List.set_cons_succ]
  refine wpAnyH_take (i := 15) (oi := { dst := some 4, op := .assign (.tmp 21), type := 4, pos := "law.go:102", after := #[{ on := 14, ground := .data }, { on := 12, ground := .chain }, { on := 0, ground := .phase }, { on := 1, ground := .phase }, { on := 2, ground := .phase }, { on := 3, ground := .phase }, { on := 4, ground := .phase }, { on := 5, ground := .phase }, { on := 6, ground := .phase }, { on := 7, ground := .phase }, { on := 8, ground := .phase }, { on := 9, ground := .phase }, { on := 10, ground := .phase }, { on := 11, ground := .phase }, { on := 12, ground := .phase }, { on := 13, ground := .phase }, { on := 14, ground := .phase }], guard := none }) (v := .bool true) rfl (by kernel_rfl) (by kernel_rfl) (by kernel_rfl) (fun _ _ _ h => h) (Or.inl ⟨by rfl, fun w hS => by go_simp⟩) (by assumption) ?_
  simp only [Act.put, List.setIfInBounds_toArray, List.set_cons_zero, List.set_cons_succ]
  refine wpAnyH_done (by kernel_rfl) ?_ _
  refine NoPanic.normal ?_
  go_wp2_with fail
  first | exact HP.out _ (below_then HWX.out (by assumption)) | (go_ret; exact HP.out _ (below_then HWX.out (by assumption)))

set_option maxRecDepth 100000 in
set_option maxHeartbeats 32000000 in
theorem msgSame_tf (a b : Ms) (w : World) (ha : MsOk w a) (hca : CLen a) (hb : MsOk w b) (hcb : CLen b) (h1 : rightM a = true) (h2 : rightM b = false) :
    Calls Try.prog 7 #[.agg a.cs, .agg b.cs] w fun e w' => e = .returned (.bool true) ∧ Below w.heap.size w w' := by
  obtain ⟨post, hpost⟩ : ∃ post : Ending → World → Prop, post = fun e w' => e = .returned (.bool true) ∧ Below w.heap.size w w' := ⟨_, rfl⟩
  rw [← hpost]
  have hP : ∀ w', Below w.heap.size w w' → post (.returned (.bool true)) w' := fun w' h => by rw [hpost]; exact ⟨rfl, h⟩
  have HP := Lib.hid hP
  obtain ⟨A, hA⟩ : ∃ A, A = w.heap.size := ⟨_, rfl⟩
  obtain ⟨C, hC⟩ : ∃ C, C = w.heap.size + 1 := ⟨_, rfl⟩
  obtain ⟨X0, hX⟩ : ∃ X, X = (w.alloc (.cells a.cs 28)).alloc (.cells b.cs 28) := ⟨_, rfl⟩
  have hXb : Below w.heap.size w X0 := hX ▸ below_alloc (below_alloc (Below.refl _ _) _) _
  have hXa : X0.heap[A]? = some (.cells a.cs 28 (0, 0)) := hX ▸ hA ▸ (heap_alloc_old _ _ (by rw [World.size_alloc]; omega)).trans (heap_alloc_new w _)
  have hXc : X0.heap[C]? = some (.cells b.cs 28 (0, 0)) := by have := heap_alloc_new (w.alloc (.cells a.cs 28)) (.cells b.cs 28); rw [World.size_alloc] at this; rw [hX, hC]; exact this
  have HX := Lib.hid hX
  have HXB := Lib.hid hXb
  have HXA := Lib.hid hXa
  have HXC := Lib.hid hXc
  have HA := Lib.hid ha
  have HB := Lib.hid hb
  have HCA := Lib.hid hca
  have HCB := Lib.hid hcb
  have HA0 := Lib.hid hA
  have HC0 := Lib.hid hC
  clear hpost hP hX hXb hXa hXc ha hb hca hcb hA hC
  go_enter Try.func7, Try.ntmps7
  go_upto_region 1 with fail
  rw [← HX.out, ← HC0.out, ← HA0.out]
  go_wp2_with fail
  refine (alive17_any X0).mono ?_
  rintro e X ⟨rfl, hb1⟩
  have hwX : Below w.heap.size w X := below_then HXB.out hb1
  have hxa := (hb1.block _ (Array.getElem?_eq_some_iff.1 HXA.out).1).trans HXA.out
  have hxc := (hb1.block _ (Array.getElem?_eq_some_iff.1 HXC.out).1).trans HXC.out
  have hla := (Array.getElem?_eq_some_iff.1 hxa).1
  have hlc := (Array.getElem?_eq_some_iff.1 hxc).1
  have hma := HA.out.below hwX
  have hmb := HB.out.below hwX
  have hXX : ∀ Z, Below X.heap.size X Z → Z.heap[A]? = some (.cells a.cs 28 (0, 0)) ∧ Z.heap[C]? = some (.cells b.cs 28 (0, 0)) := fun Z hZ => ⟨(hZ.block _ hla).trans hxa, (hZ.block _ hlc).trans hxc⟩
  have hsame : ∀ Z, Below X.heap.size X Z → Calls Try.prog 18 #[.agg a.cs, .agg b.cs] Z (fun e w' => e = .returned (.bool (rightM a && (rightM b && sameM a b))) ∧ Below X.heap.size X w') := fun Z hZ => (msame_any a b Z (hma.below hZ) (hmb.below hZ) HCA.out HCB.out).mono fun e w' h => ⟨h.1, below_then hZ h.2⟩
  have hra : ∀ Z, Below X.heap.size X Z → Calls Try.prog 14 #[.agg a.cs] Z (fun e w' => e = .returned (.bool (rightM a)) ∧ Below X.heap.size X w') := fun Z hZ => (rright17_any a Z (hma.below hZ) HCA.out).mono fun e w' h => ⟨h.1, below_then hZ h.2⟩
  have hrb : ∀ Z, Below X.heap.size X Z → Calls Try.prog 14 #[.agg b.cs] Z (fun e w' => e = .returned (.bool (rightM b)) ∧ Below X.heap.size X w') := fun Z hZ => (rright17_any b Z (hmb.below hZ) HCB.out).mono fun e w' h => ⟨h.1, below_then hZ h.2⟩
  have heq : ∀ Z, Below X.heap.size X Z → Calls Try.prog 16 #[.agg a.cs, .agg b.cs] Z (fun e w' => e = .returned (.bool (sameM a b)) ∧ Below X.heap.size X w') := fun Z hZ => (requal_any a b Z (hma.below hZ) (hmb.below hZ) HCA.out).mono fun e w' h => ⟨h.1, below_then hZ h.2⟩
  obtain ⟨sm, esm⟩ : ∃ sm, sm = sameM a b := ⟨_, rfl⟩
  rw [← esm] at hsame heq
  rw [h1, h2] at hsame
  rw [h1] at hra
  rw [h2] at hrb
  clear h1 h2
  simp only [Bool.false_and, Bool.true_and] at hsame
  have HXX := Lib.hid hXX
  have HSAME := Lib.hid hsame
  have HRA := Lib.hid hra
  have HRB := Lib.hid hrb
  have HEQ := Lib.hid heq
  have HWX := Lib.hid hwX
  clear esm hXX hsame hra hrb heq hwX hxa hxc hla hlc hma hmb hb1 HXA HXC HA HB HX HXB HCA HCB HA0 HC0
  go_upto_region 3 with fail
  refine wp_region_noPanic ?_
  refine wp_region_held_drew (S := fun w' => Below X.heap.size X w') (by kernel_rfl) (Below.refl X.heap.size X).drew (fun hHeld => ?_)
  refine wpAnyH_take (i := 0) (oi := { dst := some 7, op := .load 28 (.tmp 2), type := 28, pos := "law.go:102", after := #[], guard := none }) (v := .agg a.cs) rfl (by kernel_rfl) (by kernel_rfl) (by kernel_rfl) (fun _ _ _ h => h) (yieldsIf_loadM (by rfl) (.tmp 2) rfl A a rfl (fun w hS => ⟨_, (HXX.out w hS).1⟩)) (by assumption) ?_
  simp only [Act.put, List.setIfInBounds_toArray, List.set_cons_zero, List.set_cons_succ]
  refine wpAnyH_take (i := 1) (oi := { dst := some 8, op := .load 28 (.tmp 3), type := 28, pos := "law.go:102", after := #[], guard := none }) (v := .agg b.cs) rfl (by kernel_rfl) (by kernel_rfl) (by kernel_rfl) (fun _ _ _ h => h) (yieldsIf_loadM (by rfl) (.tmp 3) rfl C b rfl (fun w hS => ⟨_, (HXX.out w hS).2⟩)) (by assumption) ?_
  simp only [Act.put, List.setIfInBounds_toArray, List.set_cons_zero, List.set_cons_succ]
  refine wpAnyH_take (i := 3) (oi := { dst := some 10, op := .load 28 (.tmp 2), type := 28, pos := "law.go:102", after := #[], guard := none }) (v := .agg a.cs) rfl (by kernel_rfl) (by kernel_rfl) (by kernel_rfl) (fun _ _ _ h => h) (yieldsIf_loadM (by rfl) (.tmp 2) rfl A a rfl (fun w hS => ⟨_, (HXX.out w hS).1⟩)) (by assumption) ?_
  simp only [Act.put, List.setIfInBounds_toArray, List.set_cons_zero, List.set_cons_succ]
  refine wpAnyH_ready (rs := [2]) (by kernel_rfl) (by simp) ?_
  refine AllReadyH.cons (o := { dst := some 9, op := .call { callee := .value (.func 18), args := #[.tmp 7, .tmp 8], argTypes := #[28, 28] }, type := 4, pos := "law.go:102", after := #[{ on := 0, ground := .data }, { on := 1, ground := .data }], guard := none }) rfl (fun K hK => ?_) AllReadyH.nil
  go_simp
  refine (HSAME.out _ (by assumption)).mono ?_
  rintro e y2 ⟨rfl, hb⟩
  refine hK.out _ _ hb (fun hHeld2 => ?_)
  clear hK K hb
  refine wpAnyH_ready (rs := [4]) (by kernel_rfl) (by simp) ?_
  refine AllReadyH.cons (o := { dst := some 11, op := .call { callee := .value (.func 14), args := #[.tmp 10], argTypes := #[28] }, type := 4, pos := "law.go:102", after := #[{ on := 3, ground := .data }, { on := 2, ground := .chain }], guard := none }) rfl (fun K hK => ?_) AllReadyH.nil
  go_simp
  refine (HRA.out _ (by assumption)).mono ?_
  rintro e y4 ⟨rfl, hb⟩
  refine hK.out _ _ hb (fun hHeld4 => ?_)
  clear hK K hb
  refine wpAnyH_take (i := 5) (oi := { dst := some 12, op := .move (.tmp 11), type := 4, pos := "law.go:102", after := #[{ on := 4, ground := .data }, { on := 4, ground := .chain }], guard := none }) (v := .bool true) rfl (by kernel_rfl) (by kernel_rfl) (by kernel_rfl) (fun _ _ _ h => h) (Or.inl ⟨by rfl, fun w hS => by go_simp⟩) (by assumption) ?_
  simp only [Act.put, List.setIfInBounds_toArray, List.set_cons_zero, List.set_cons_succ]
  refine wpAnyH_take (i := 6) (oi := { dst := some 13, op := .load 28 (.tmp 3), type := 28, pos := "law.go:102", after := #[{ on := 5, ground := .guard }], guard := some (5, true) }) (v := .agg b.cs) rfl (by kernel_rfl) (by kernel_rfl) (by kernel_rfl) (fun _ _ _ h => h) (yieldsIf_loadM (by rfl) (.tmp 3) rfl C b rfl (fun w hS => ⟨_, (HXX.out w hS).2⟩)) (by assumption) ?_
  simp only [Act.put, List.setIfInBounds_toArray, List.set_cons_zero, List.set_cons_succ]
  refine wpAnyH_ready (rs := [7]) (by kernel_rfl) (by simp) ?_
  refine AllReadyH.cons (o := { dst := some 14, op := .call { callee := .value (.func 14), args := #[.tmp 13], argTypes := #[28] }, type := 4, pos := "law.go:102", after := #[{ on := 6, ground := .data }, { on := 5, ground := .chain }, { on := 5, ground := .guard }], guard := some (5, true) }) rfl (fun K hK => ?_) AllReadyH.nil
  go_simp
  refine (HRB.out _ (by assumption)).mono ?_
  rintro e y7 ⟨rfl, hb⟩
  refine hK.out _ _ hb (fun hHeld7 => ?_)
  clear hK K hb
  refine wpAnyH_take (i := 8) (oi := { dst := some 15, op := .pick (.tmp 12) (.tmp 14) (.const (.bool false)), type := 4, pos := "law.go:102", after := #[{ on := 5, ground := .data }, { on := 7, ground := .data }], guard := none }) (v := .bool false) rfl (by kernel_rfl) (by kernel_rfl) (by kernel_rfl) (fun _ _ _ h => h) (Or.inl ⟨by rfl, fun w hS => by go_simp⟩) (by assumption) ?_
  simp only [Act.put, List.setIfInBounds_toArray, List.set_cons_zero, List.set_cons_succ]
  refine wpAnyH_take (i := 9) (oi := { dst := some 16, op := .move (.tmp 15), type := 4, pos := "law.go:102", after := #[{ on := 8, ground := .data }, { on := 7, ground := .chain }], guard := none }) (v := .bool false) rfl (by kernel_rfl) (by kernel_rfl) (by kernel_rfl) (fun _ _ _ h => h) (Or.inl ⟨by rfl, fun w hS => by go_simp⟩) (by assumption) ?_
  simp only [Act.put, List.setIfInBounds_toArray, List.set_cons_zero, List.set_cons_succ]
  refine wpAnyH_take (i := 10) (oi := { dst := some 17, op := .load 28 (.tmp 2), type := 28, pos := "law.go:102", after := #[{ on := 9, ground := .guard }], guard := some (9, true) }) (v := undef) rfl (by kernel_rfl) (by kernel_rfl) (by kernel_rfl) (fun _ _ _ h => h) (Or.inr ⟨by rfl, rfl⟩) (by assumption) ?_
  simp only [Act.put, List.setIfInBounds_toArray, List.set_cons_zero, List.set_cons_succ]
  refine wpAnyH_take (i := 11) (oi := { dst := some 18, op := .load 28 (.tmp 3), type := 28, pos := "law.go:102", after := #[{ on := 9, ground := .guard }], guard := some (9, true) }) (v := undef) rfl (by kernel_rfl) (by kernel_rfl) (by kernel_rfl) (fun _ _ _ h => h) (Or.inr ⟨by rfl, rfl⟩) (by assumption) ?_
  simp only [Act.put, List.setIfInBounds_toArray, List.set_cons_zero, List.set_cons_succ]
  refine wpAnyH_take (i := 12) (oi := { dst := some 19, op := .call { callee := .value (.func 16), args := #[.tmp 17, .tmp 18], argTypes := #[28, 28] }, type := 4, pos := "law.go:102", after := #[{ on := 10, ground := .data }, { on := 11, ground := .data }, { on := 9, ground := .chain }, { on := 9, ground := .guard }], guard := some (9, true) }) (v := undef) rfl (by kernel_rfl) (by kernel_rfl) (by kernel_rfl) (fun _ _ _ h => h) (Or.inr ⟨by rfl, rfl⟩) (by assumption) ?_
  simp only [Act.put, List.setIfInBounds_toArray, List.set_cons_zero, List.set_cons_succ]
  refine wpAnyH_take (i := 13) (oi := { dst := some 20, op := .pick (.tmp 16) (.tmp 19) (.const (.bool false)), type := 4, pos := "law.go:102", after := #[{ on := 9, ground := .data }, { on := 12, ground := .data }], guard := none }) (v := .bool false) rfl (by kernel_rfl) (by kernel_rfl) (by kernel_rfl) (fun _ _ _ h => h) (Or.inl ⟨by rfl, fun w hS => by go_simp⟩) (by assumption) ?_
  simp only [Act.put, List.setIfInBounds_toArray, List.set_cons_zero, List.set_cons_succ]
  refine wpAnyH_take (i := 14) (oi := { dst := some 21, op := .binOp .eql 4 (.tmp 9) (.tmp 20) 4, type := 4, pos := "law.go:102", after := #[{ on := 2, ground := .data }, { on := 13, ground := .data }], guard := none }) (v := .bool true) rfl (by kernel_rfl) (by kernel_rfl) (by kernel_rfl) (fun _ _ _ h => h) (Or.inl ⟨by rfl, fun w hS => by go_simp⟩) (by assumption) ?_
  simp only [Act.put, List.setIfInBounds_toArray, List.set_cons_zero, List.set_cons_succ]
  refine wpAnyH_take (i := 15) (oi := { dst := some 4, op := .assign (.tmp 21), type := 4, pos := "law.go:102", after := #[{ on := 14, ground := .data }, { on := 12, ground := .chain }, { on := 0, ground := .phase }, { on := 1, ground := .phase }, { on := 2, ground := .phase }, { on := 3, ground := .phase }, { on := 4, ground := .phase }, { on := 5, ground := .phase }, { on := 6, ground := .phase }, { on := 7, ground := .phase }, { on := 8, ground := .phase }, { on := 9, ground := .phase }, { on := 10, ground := .phase }, { on := 11, ground := .phase }, { on := 12, ground := .phase }, { on := 13, ground := .phase }, { on := 14, ground := .phase }], guard := none }) (v := .bool true) rfl (by kernel_rfl) (by kernel_rfl) (by kernel_rfl) (fun _ _ _ h => h) (Or.inl ⟨by rfl, fun w hS => by go_simp⟩) (by assumption) ?_
  simp only [Act.put, List.setIfInBounds_toArray, List.set_cons_zero, List.set_cons_succ]
  refine wpAnyH_done (by kernel_rfl) ?_ _
  refine NoPanic.normal ?_
  go_wp2_with fail
  first | exact HP.out _ (below_then HWX.out (by assumption)) | (go_ret; exact HP.out _ (below_then HWX.out (by assumption)))

set_option maxRecDepth 100000 in
set_option maxHeartbeats 32000000 in
theorem msgSame_tt (a b : Ms) (w : World) (ha : MsOk w a) (hca : CLen a) (hb : MsOk w b) (hcb : CLen b) (h1 : rightM a = true) (h2 : rightM b = true) :
    Calls Try.prog 7 #[.agg a.cs, .agg b.cs] w fun e w' => e = .returned (.bool true) ∧ Below w.heap.size w w' := by
  obtain ⟨post, hpost⟩ : ∃ post : Ending → World → Prop, post = fun e w' => e = .returned (.bool true) ∧ Below w.heap.size w w' := ⟨_, rfl⟩
  rw [← hpost]
  have hP : ∀ w', Below w.heap.size w w' → post (.returned (.bool true)) w' := fun w' h => by rw [hpost]; exact ⟨rfl, h⟩
  have HP := Lib.hid hP
  obtain ⟨A, hA⟩ : ∃ A, A = w.heap.size := ⟨_, rfl⟩
  obtain ⟨C, hC⟩ : ∃ C, C = w.heap.size + 1 := ⟨_, rfl⟩
  obtain ⟨X0, hX⟩ : ∃ X, X = (w.alloc (.cells a.cs 28)).alloc (.cells b.cs 28) := ⟨_, rfl⟩
  have hXb : Below w.heap.size w X0 := hX ▸ below_alloc (below_alloc (Below.refl _ _) _) _
  have hXa : X0.heap[A]? = some (.cells a.cs 28 (0, 0)) := hX ▸ hA ▸ (heap_alloc_old _ _ (by rw [World.size_alloc]; omega)).trans (heap_alloc_new w _)
  have hXc : X0.heap[C]? = some (.cells b.cs 28 (0, 0)) := by have := heap_alloc_new (w.alloc (.cells a.cs 28)) (.cells b.cs 28); rw [World.size_alloc] at this; rw [hX, hC]; exact this
  have HX := Lib.hid hX
  have HXB := Lib.hid hXb
  have HXA := Lib.hid hXa
  have HXC := Lib.hid hXc
  have HA := Lib.hid ha
  have HB := Lib.hid hb
  have HCA := Lib.hid hca
  have HCB := Lib.hid hcb
  have HA0 := Lib.hid hA
  have HC0 := Lib.hid hC
  clear hpost hP hX hXb hXa hXc ha hb hca hcb hA hC
  go_enter Try.func7, Try.ntmps7
  go_upto_region 1 with fail
  rw [← HX.out, ← HC0.out, ← HA0.out]
  go_wp2_with fail
  refine (alive17_any X0).mono ?_
  rintro e X ⟨rfl, hb1⟩
  have hwX : Below w.heap.size w X := below_then HXB.out hb1
  have hxa := (hb1.block _ (Array.getElem?_eq_some_iff.1 HXA.out).1).trans HXA.out
  have hxc := (hb1.block _ (Array.getElem?_eq_some_iff.1 HXC.out).1).trans HXC.out
  have hla := (Array.getElem?_eq_some_iff.1 hxa).1
  have hlc := (Array.getElem?_eq_some_iff.1 hxc).1
  have hma := HA.out.below hwX
  have hmb := HB.out.below hwX
  have hXX : ∀ Z, Below X.heap.size X Z → Z.heap[A]? = some (.cells a.cs 28 (0, 0)) ∧ Z.heap[C]? = some (.cells b.cs 28 (0, 0)) := fun Z hZ => ⟨(hZ.block _ hla).trans hxa, (hZ.block _ hlc).trans hxc⟩
  have hsame : ∀ Z, Below X.heap.size X Z → Calls Try.prog 18 #[.agg a.cs, .agg b.cs] Z (fun e w' => e = .returned (.bool (rightM a && (rightM b && sameM a b))) ∧ Below X.heap.size X w') := fun Z hZ => (msame_any a b Z (hma.below hZ) (hmb.below hZ) HCA.out HCB.out).mono fun e w' h => ⟨h.1, below_then hZ h.2⟩
  have hra : ∀ Z, Below X.heap.size X Z → Calls Try.prog 14 #[.agg a.cs] Z (fun e w' => e = .returned (.bool (rightM a)) ∧ Below X.heap.size X w') := fun Z hZ => (rright17_any a Z (hma.below hZ) HCA.out).mono fun e w' h => ⟨h.1, below_then hZ h.2⟩
  have hrb : ∀ Z, Below X.heap.size X Z → Calls Try.prog 14 #[.agg b.cs] Z (fun e w' => e = .returned (.bool (rightM b)) ∧ Below X.heap.size X w') := fun Z hZ => (rright17_any b Z (hmb.below hZ) HCB.out).mono fun e w' h => ⟨h.1, below_then hZ h.2⟩
  have heq : ∀ Z, Below X.heap.size X Z → Calls Try.prog 16 #[.agg a.cs, .agg b.cs] Z (fun e w' => e = .returned (.bool (sameM a b)) ∧ Below X.heap.size X w') := fun Z hZ => (requal_any a b Z (hma.below hZ) (hmb.below hZ) HCA.out).mono fun e w' h => ⟨h.1, below_then hZ h.2⟩
  obtain ⟨sm, esm⟩ : ∃ sm, sm = sameM a b := ⟨_, rfl⟩
  rw [← esm] at hsame heq
  rw [h1, h2] at hsame
  rw [h1] at hra
  rw [h2] at hrb
  clear h1 h2
  simp only [Bool.true_and] at hsame
  have HXX := Lib.hid hXX
  have HSAME := Lib.hid hsame
  have HRA := Lib.hid hra
  have HRB := Lib.hid hrb
  have HEQ := Lib.hid heq
  have HWX := Lib.hid hwX
  clear esm hXX hsame hra hrb heq hwX hxa hxc hla hlc hma hmb hb1 HXA HXC HA HB HX HXB HCA HCB HA0 HC0
  go_upto_region 3 with fail
  refine wp_region_noPanic ?_
  refine wp_region_held_drew (S := fun w' => Below X.heap.size X w') (by kernel_rfl) (Below.refl X.heap.size X).drew (fun hHeld => ?_)
  refine wpAnyH_take (i := 0) (oi := { dst := some 7, op := .load 28 (.tmp 2), type := 28, pos := "law.go:102", after := #[], guard := none }) (v := .agg a.cs) rfl (by kernel_rfl) (by kernel_rfl) (by kernel_rfl) (fun _ _ _ h => h) (yieldsIf_loadM (by rfl) (.tmp 2) rfl A a rfl (fun w hS => ⟨_, (HXX.out w hS).1⟩)) (by assumption) ?_
  simp only [Act.put, List.setIfInBounds_toArray, List.set_cons_zero, List.set_cons_succ]
  refine wpAnyH_take (i := 1) (oi := { dst := some 8, op := .load 28 (.tmp 3), type := 28, pos := "law.go:102", after := #[], guard := none }) (v := .agg b.cs) rfl (by kernel_rfl) (by kernel_rfl) (by kernel_rfl) (fun _ _ _ h => h) (yieldsIf_loadM (by rfl) (.tmp 3) rfl C b rfl (fun w hS => ⟨_, (HXX.out w hS).2⟩)) (by assumption) ?_
  simp only [Act.put, List.setIfInBounds_toArray, List.set_cons_zero, List.set_cons_succ]
  refine wpAnyH_take (i := 3) (oi := { dst := some 10, op := .load 28 (.tmp 2), type := 28, pos := "law.go:102", after := #[], guard := none }) (v := .agg a.cs) rfl (by kernel_rfl) (by kernel_rfl) (by kernel_rfl) (fun _ _ _ h => h) (yieldsIf_loadM (by rfl) (.tmp 2) rfl A a rfl (fun w hS => ⟨_, (HXX.out w hS).1⟩)) (by assumption) ?_
  simp only [Act.put, List.setIfInBounds_toArray, List.set_cons_zero, List.set_cons_succ]
  refine wpAnyH_ready (rs := [2]) (by kernel_rfl) (by simp) ?_
  refine AllReadyH.cons (o := { dst := some 9, op := .call { callee := .value (.func 18), args := #[.tmp 7, .tmp 8], argTypes := #[28, 28] }, type := 4, pos := "law.go:102", after := #[{ on := 0, ground := .data }, { on := 1, ground := .data }], guard := none }) rfl (fun K hK => ?_) AllReadyH.nil
  go_simp
  refine (HSAME.out _ (by assumption)).mono ?_
  rintro e y2 ⟨rfl, hb⟩
  refine hK.out _ _ hb (fun hHeld2 => ?_)
  clear hK K hb
  refine wpAnyH_ready (rs := [4]) (by kernel_rfl) (by simp) ?_
  refine AllReadyH.cons (o := { dst := some 11, op := .call { callee := .value (.func 14), args := #[.tmp 10], argTypes := #[28] }, type := 4, pos := "law.go:102", after := #[{ on := 3, ground := .data }, { on := 2, ground := .chain }], guard := none }) rfl (fun K hK => ?_) AllReadyH.nil
  go_simp
  refine (HRA.out _ (by assumption)).mono ?_
  rintro e y4 ⟨rfl, hb⟩
  refine hK.out _ _ hb (fun hHeld4 => ?_)
  clear hK K hb
  refine wpAnyH_take (i := 5) (oi := { dst := some 12, op := .move (.tmp 11), type := 4, pos := "law.go:102", after := #[{ on := 4, ground := .data }, { on := 4, ground := .chain }], guard := none }) (v := .bool true) rfl (by kernel_rfl) (by kernel_rfl) (by kernel_rfl) (fun _ _ _ h => h) (Or.inl ⟨by rfl, fun w hS => by go_simp⟩) (by assumption) ?_
  simp only [Act.put, List.setIfInBounds_toArray, List.set_cons_zero, List.set_cons_succ]
  refine wpAnyH_take (i := 6) (oi := { dst := some 13, op := .load 28 (.tmp 3), type := 28, pos := "law.go:102", after := #[{ on := 5, ground := .guard }], guard := some (5, true) }) (v := .agg b.cs) rfl (by kernel_rfl) (by kernel_rfl) (by kernel_rfl) (fun _ _ _ h => h) (yieldsIf_loadM (by rfl) (.tmp 3) rfl C b rfl (fun w hS => ⟨_, (HXX.out w hS).2⟩)) (by assumption) ?_
  simp only [Act.put, List.setIfInBounds_toArray, List.set_cons_zero, List.set_cons_succ]
  refine wpAnyH_ready (rs := [7]) (by kernel_rfl) (by simp) ?_
  refine AllReadyH.cons (o := { dst := some 14, op := .call { callee := .value (.func 14), args := #[.tmp 13], argTypes := #[28] }, type := 4, pos := "law.go:102", after := #[{ on := 6, ground := .data }, { on := 5, ground := .chain }, { on := 5, ground := .guard }], guard := some (5, true) }) rfl (fun K hK => ?_) AllReadyH.nil
  go_simp
  refine (HRB.out _ (by assumption)).mono ?_
  rintro e y7 ⟨rfl, hb⟩
  refine hK.out _ _ hb (fun hHeld7 => ?_)
  clear hK K hb
  refine wpAnyH_take (i := 8) (oi := { dst := some 15, op := .pick (.tmp 12) (.tmp 14) (.const (.bool false)), type := 4, pos := "law.go:102", after := #[{ on := 5, ground := .data }, { on := 7, ground := .data }], guard := none }) (v := .bool true) rfl (by kernel_rfl) (by kernel_rfl) (by kernel_rfl) (fun _ _ _ h => h) (Or.inl ⟨by rfl, fun w hS => by go_simp⟩) (by assumption) ?_
  simp only [Act.put, List.setIfInBounds_toArray, List.set_cons_zero, List.set_cons_succ]
  refine wpAnyH_take (i := 9) (oi := { dst := some 16, op := .move (.tmp 15), type := 4, pos := "law.go:102", after := #[{ on := 8, ground := .data }, { on := 7, ground := .chain }], guard := none }) (v := .bool true) rfl (by kernel_rfl) (by kernel_rfl) (by kernel_rfl) (fun _ _ _ h => h) (Or.inl ⟨by rfl, fun w hS => by go_simp⟩) (by assumption) ?_
  simp only [Act.put, List.setIfInBounds_toArray, List.set_cons_zero, List.set_cons_succ]
  refine wpAnyH_take (i := 10) (oi := { dst := some 17, op := .load 28 (.tmp 2), type := 28, pos := "law.go:102", after := #[{ on := 9, ground := .guard }], guard := some (9, true) }) (v := .agg a.cs) rfl (by kernel_rfl) (by kernel_rfl) (by kernel_rfl) (fun _ _ _ h => h) (yieldsIf_loadM (by rfl) (.tmp 2) rfl A a rfl (fun w hS => ⟨_, (HXX.out w hS).1⟩)) (by assumption) ?_
  simp only [Act.put, List.setIfInBounds_toArray, List.set_cons_zero, List.set_cons_succ]
  refine wpAnyH_take (i := 11) (oi := { dst := some 18, op := .load 28 (.tmp 3), type := 28, pos := "law.go:102", after := #[{ on := 9, ground := .guard }], guard := some (9, true) }) (v := .agg b.cs) rfl (by kernel_rfl) (by kernel_rfl) (by kernel_rfl) (fun _ _ _ h => h) (yieldsIf_loadM (by rfl) (.tmp 3) rfl C b rfl (fun w hS => ⟨_, (HXX.out w hS).2⟩)) (by assumption) ?_
  simp only [Act.put, List.setIfInBounds_toArray, List.set_cons_zero, List.set_cons_succ]
  refine wpAnyH_ready (rs := [12]) (by kernel_rfl) (by simp) ?_
  refine AllReadyH.cons (o := { dst := some 19, op := .call { callee := .value (.func 16), args := #[.tmp 17, .tmp 18], argTypes := #[28, 28] }, type := 4, pos := "law.go:102", after := #[{ on := 10, ground := .data }, { on := 11, ground := .data }, { on := 9, ground := .chain }, { on := 9, ground := .guard }], guard := some (9, true) }) rfl (fun K hK => ?_) AllReadyH.nil
  go_simp
  refine (HEQ.out _ (by assumption)).mono ?_
  rintro e y12 ⟨rfl, hb⟩
  refine hK.out _ _ hb (fun hHeld12 => ?_)
  clear hK K hb
  refine wpAnyH_take (i := 13) (oi := { dst := some 20, op := .pick (.tmp 16) (.tmp 19) (.const (.bool false)), type := 4, pos := "law.go:102", after := #[{ on := 9, ground := .data }, { on := 12, ground := .data }], guard := none }) (v := .bool sm) rfl (by kernel_rfl) (by kernel_rfl) (by kernel_rfl) (fun _ _ _ h => h) (Or.inl ⟨by rfl, fun w hS => by go_simp⟩) (by assumption) ?_
  simp only [Act.put, List.setIfInBounds_toArray, List.set_cons_zero, List.set_cons_succ]
  refine wpAnyH_take (i := 14) (oi := { dst := some 21, op := .binOp .eql 4 (.tmp 9) (.tmp 20) 4, type := 4, pos := "law.go:102", after := #[{ on := 2, ground := .data }, { on := 13, ground := .data }], guard := none }) (v := .bool true) rfl (by kernel_rfl) (by kernel_rfl) (by kernel_rfl) (fun _ _ _ h => h) (Or.inl ⟨by rfl, fun w hS => by go_simp⟩) (by assumption) ?_
  simp only [Act.put, List.setIfInBounds_toArray, List.set_cons_zero, List.set_cons_succ]
  refine wpAnyH_take (i := 15) (oi := { dst := some 4, op := .assign (.tmp 21), type := 4, pos := "law.go:102", after := #[{ on := 14, ground := .data }, { on := 12, ground := .chain }, { on := 0, ground := .phase }, { on := 1, ground := .phase }, { on := 2, ground := .phase }, { on := 3, ground := .phase }, { on := 4, ground := .phase }, { on := 5, ground := .phase }, { on := 6, ground := .phase }, { on := 7, ground := .phase }, { on := 8, ground := .phase }, { on := 9, ground := .phase }, { on := 10, ground := .phase }, { on := 11, ground := .phase }, { on := 12, ground := .phase }, { on := 13, ground := .phase }, { on := 14, ground := .phase }], guard := none }) (v := .bool true) rfl (by kernel_rfl) (by kernel_rfl) (by kernel_rfl) (fun _ _ _ h => h) (Or.inl ⟨by rfl, fun w hS => by go_simp⟩) (by assumption) ?_
  simp only [Act.put, List.setIfInBounds_toArray, List.set_cons_zero, List.set_cons_succ]
  refine wpAnyH_done (by kernel_rfl) ?_ _
  refine NoPanic.normal ?_
  go_wp2_with fail
  first | exact HP.out _ (below_then HWX.out (by assumption)) | (go_ret; exact HP.out _ (below_then HWX.out (by assumption)))

theorem msgSame_walk (a b : Ms) (w : World) (ha : MsOk w a) (hca : CLen a) (hb : MsOk w b) (hcb : CLen b) :
    Calls Try.prog 7 #[.agg a.cs, .agg b.cs] w fun e w' => e = .returned (.bool true) ∧ Below w.heap.size w w' := by
  cases h1 : rightM a with
  | false => exact msgSame_f a b w ha hca hb hcb h1
  | true =>
    cases h2 : rightM b with
    | false => exact msgSame_tf a b w ha hca hb hcb h1 h2
    | true => exact msgSame_tt a b w ha hca hb hcb h1 h2
end Go.Proofs.Ytcejamblndilbaa
