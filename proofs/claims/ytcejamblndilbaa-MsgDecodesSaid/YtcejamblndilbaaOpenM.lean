/- A message that came in, opened. -/
import Derived.Test.YtcejamblndilbaaOpenM1
import Derived.Test.YtcejamblndilbaaSame3
namespace Go.Proofs.Ytcejamblndilbaa
open Go.ChangeShapes Go.WideShapes Go.ChangeAt Go.RowKit Go.Deep

theorem list14 {α : Type} {l : List α} (h : l.length = 14) : ∃ a0 a1 a2 a3 a4 a5 a6 a7 a8 a9 a10 a11 a12 a13, l = [a0, a1, a2, a3, a4, a5, a6, a7, a8, a9, a10, a11, a12, a13] := by
  match l, h with
  | [a0, a1, a2, a3, a4, a5, a6, a7, a8, a9, a10, a11, a12, a13], _ => exact ⟨a0, a1, a2, a3, a4, a5, a6, a7, a8, a9, a10, a11, a12, a13, rfl⟩
theorem cells_msg : Try.prog.cellsOf 28 = 14 := by kernel_rfl

set_option maxRecDepth 100000 in
set_option maxHeartbeats 800000 in
theorem conf_trod {H : Type} {enc : TypeId × Value → H} {W : World} {fuel : Nat} {v0 v1 : Value} {y : DataW H × List MemPlace}
    (hf : DataW.trod enc Try.prog W 0 (fun _ => true) true fuel 26 [v0, v1] = some y) :
    ∃ c : Cf, v0 = .slice c.v.a c.v.len c.v.cap ∧ v1 = .slice c.l.a c.l.len c.l.cap ∧ c.ok W ∧ (c.v.len ≤ maxLen ∧ c.l.len ≤ maxLen) := by
  obtain ⟨ys, n', _, hy, hcl, hyl, hff⟩ := DataW.trod_struct Try.underlying26 hf
  have t0 : DataW.trod enc Try.prog W 0 (fun _ => true) true n' 24 (([v0, v1].drop 0).take (Try.prog.cellsOf 24)) = ys[0]? := hff 0 _ rfl
  have t1 : DataW.trod enc Try.prog W 0 (fun _ => true) true n' 24 (([v0, v1].drop 1).take (Try.prog.cellsOf 24)) = ys[1]? := hff 1 _ rfl
  rw [cells_zs] at t0 t1
  obtain ⟨y0, e0⟩ : ∃ y, ys[0]? = some y := ⟨_, List.getElem?_eq_getElem (by rw [hyl]; decide)⟩
  obtain ⟨y1, e1⟩ : ∃ y, ys[1]? = some y := ⟨_, List.getElem?_eq_getElem (by rw [hyl]; decide)⟩
  rw [e0] at t0
  rw [e1] at t1
  obtain ⟨a0, l0, c0, zs0, rfl, r0, lc0, cm0, n0, b0⟩ := zs_trod (show DataW.trod enc Try.prog W 0 (fun _ => true) true n' 24 [v0] = some y0 from t0)
  obtain ⟨a1, l1, c1, zs1, rfl, r1, lc1, cm1, n1, b1⟩ := zs_trod (show DataW.trod enc Try.prog W 0 (fun _ => true) true n' 24 [v1] = some y1 from t1)
  refine ⟨⟨⟨a0, l0, c0, zs0⟩, ⟨a1, l1, c1, zs1⟩⟩, rfl, rfl, ⟨⟨r0, fun e => ?_⟩, ⟨r1, fun e => ?_⟩⟩, ?_⟩
  · have := n0 e
    simp only
    omega
  · have := n1 e
    simp only
    omega
  · exact ⟨Nat.le_trans lc0 cm0, Nat.le_trans lc1 cm1⟩

set_option maxRecDepth 100000 in
set_option maxHeartbeats 1600000 in
theorem open_msg {H : Type} {enc : TypeId × Value → H} {W : World} {r : Reach} {b0 : Nat} {v : Value} {d : DataW H} {p : List MemPlace}
    (hv : Value.okWide Try.prog W r b0 28 v) (h : DataW.Trod enc Try.prog W 0 (fun _ => true) true 28 v d p) :
    ∃ m : Ms, v = .agg m.cs ∧ MsOk W m ∧ CLen m := by
  obtain ⟨cs, rfl, hcs⟩ := okWide_struct Try.underlying28 hv
  obtain ⟨fuel, hf⟩ := h
  obtain ⟨ys, n', _, hy, hcl, hyl, hff⟩ := DataW.trod_struct Try.underlying28 hf
  rw [cells_msg] at hcs hcl
  obtain ⟨cs⟩ := cs
  obtain ⟨v0, v1, v2, v3, v4, v5, v6, v7, v8, v9, v10, v11, v12, v13, rfl⟩ := list14 (show cs.length = 14 from hcs)
  have t0 : DataW.trod enc Try.prog W 0 (fun _ => true) true n' 3 (([v0, v1, v2, v3, v4, v5, v6, v7, v8, v9, v10, v11, v12, v13].drop 0).take (Try.prog.cellsOf 3)) = ys[0]? := hff 0 _ rfl
  have t1 : DataW.trod enc Try.prog W 0 (fun _ => true) true n' 3 (([v0, v1, v2, v3, v4, v5, v6, v7, v8, v9, v10, v11, v12, v13].drop 1).take (Try.prog.cellsOf 3)) = ys[1]? := hff 1 _ rfl
  have t2 : DataW.trod enc Try.prog W 0 (fun _ => true) true n' 3 (([v0, v1, v2, v3, v4, v5, v6, v7, v8, v9, v10, v11, v12, v13].drop 2).take (Try.prog.cellsOf 3)) = ys[2]? := hff 2 _ rfl
  have t3 : DataW.trod enc Try.prog W 0 (fun _ => true) true n' 2 (([v0, v1, v2, v3, v4, v5, v6, v7, v8, v9, v10, v11, v12, v13].drop 3).take (Try.prog.cellsOf 2)) = ys[3]? := hff 3 _ rfl
  have t4 : DataW.trod enc Try.prog W 0 (fun _ => true) true n' 2 (([v0, v1, v2, v3, v4, v5, v6, v7, v8, v9, v10, v11, v12, v13].drop 4).take (Try.prog.cellsOf 2)) = ys[4]? := hff 4 _ rfl
  have t5 : DataW.trod enc Try.prog W 0 (fun _ => true) true n' 2 (([v0, v1, v2, v3, v4, v5, v6, v7, v8, v9, v10, v11, v12, v13].drop 5).take (Try.prog.cellsOf 2)) = ys[5]? := hff 5 _ rfl
  have t6 : DataW.trod enc Try.prog W 0 (fun _ => true) true n' 2 (([v0, v1, v2, v3, v4, v5, v6, v7, v8, v9, v10, v11, v12, v13].drop 6).take (Try.prog.cellsOf 2)) = ys[6]? := hff 6 _ rfl
  have t7 : DataW.trod enc Try.prog W 0 (fun _ => true) true n' 4 (([v0, v1, v2, v3, v4, v5, v6, v7, v8, v9, v10, v11, v12, v13].drop 7).take (Try.prog.cellsOf 4)) = ys[7]? := hff 7 _ rfl
  have t8 : DataW.trod enc Try.prog W 0 (fun _ => true) true n' 22 (([v0, v1, v2, v3, v4, v5, v6, v7, v8, v9, v10, v11, v12, v13].drop 8).take (Try.prog.cellsOf 22)) = ys[8]? := hff 8 _ rfl
  have t9 : DataW.trod enc Try.prog W 0 (fun _ => true) true n' 2 (([v0, v1, v2, v3, v4, v5, v6, v7, v8, v9, v10, v11, v12, v13].drop 9).take (Try.prog.cellsOf 2)) = ys[9]? := hff 9 _ rfl
  have t10 : DataW.trod enc Try.prog W 0 (fun _ => true) true n' 23 (([v0, v1, v2, v3, v4, v5, v6, v7, v8, v9, v10, v11, v12, v13].drop 10).take (Try.prog.cellsOf 23)) = ys[10]? := hff 10 _ rfl
  have t11 : DataW.trod enc Try.prog W 0 (fun _ => true) true n' 4 (([v0, v1, v2, v3, v4, v5, v6, v7, v8, v9, v10, v11, v12, v13].drop 11).take (Try.prog.cellsOf 4)) = ys[11]? := hff 11 _ rfl
  have t12 : DataW.trod enc Try.prog W 0 (fun _ => true) true n' 26 (([v0, v1, v2, v3, v4, v5, v6, v7, v8, v9, v10, v11, v12, v13].drop 12).take (Try.prog.cellsOf 26)) = ys[12]? := hff 12 _ rfl
  rw [cells_int] at t0
  rw [cells_int] at t1
  rw [cells_int] at t2
  rw [cells_i64] at t3
  rw [cells_i64] at t4
  rw [cells_i64] at t5
  rw [cells_i64] at t6
  rw [cells_bool] at t7
  rw [cells_ents] at t8
  rw [cells_i64] at t9
  rw [cells_bytes] at t10
  rw [cells_bool] at t11
  rw [cells_conf] at t12
  obtain ⟨y0, e0⟩ : ∃ y, ys[0]? = some y := ⟨_, List.getElem?_eq_getElem (by rw [hyl]; decide)⟩
  obtain ⟨y1, e1⟩ : ∃ y, ys[1]? = some y := ⟨_, List.getElem?_eq_getElem (by rw [hyl]; decide)⟩
  obtain ⟨y2, e2⟩ : ∃ y, ys[2]? = some y := ⟨_, List.getElem?_eq_getElem (by rw [hyl]; decide)⟩
  obtain ⟨y3, e3⟩ : ∃ y, ys[3]? = some y := ⟨_, List.getElem?_eq_getElem (by rw [hyl]; decide)⟩
  obtain ⟨y4, e4⟩ : ∃ y, ys[4]? = some y := ⟨_, List.getElem?_eq_getElem (by rw [hyl]; decide)⟩
  obtain ⟨y5, e5⟩ : ∃ y, ys[5]? = some y := ⟨_, List.getElem?_eq_getElem (by rw [hyl]; decide)⟩
  obtain ⟨y6, e6⟩ : ∃ y, ys[6]? = some y := ⟨_, List.getElem?_eq_getElem (by rw [hyl]; decide)⟩
  obtain ⟨y7, e7⟩ : ∃ y, ys[7]? = some y := ⟨_, List.getElem?_eq_getElem (by rw [hyl]; decide)⟩
  obtain ⟨y8, e8⟩ : ∃ y, ys[8]? = some y := ⟨_, List.getElem?_eq_getElem (by rw [hyl]; decide)⟩
  obtain ⟨y9, e9⟩ : ∃ y, ys[9]? = some y := ⟨_, List.getElem?_eq_getElem (by rw [hyl]; decide)⟩
  obtain ⟨y10, e10⟩ : ∃ y, ys[10]? = some y := ⟨_, List.getElem?_eq_getElem (by rw [hyl]; decide)⟩
  obtain ⟨y11, e11⟩ : ∃ y, ys[11]? = some y := ⟨_, List.getElem?_eq_getElem (by rw [hyl]; decide)⟩
  obtain ⟨y12, e12⟩ : ∃ y, ys[12]? = some y := ⟨_, List.getElem?_eq_getElem (by rw [hyl]; decide)⟩
  rw [e0] at t0
  rw [e1] at t1
  rw [e2] at t2
  rw [e3] at t3
  rw [e4] at t4
  rw [e5] at t5
  rw [e6] at t6
  rw [e7] at t7
  rw [e8] at t8
  rw [e9] at t9
  rw [e10] at t10
  rw [e11] at t11
  rw [e12] at t12
  obtain ⟨n0, hn0, _, w0⟩ := DataW.trod_int Try.underlying3 (show DataW.trod enc Try.prog W 0 (fun _ => true) true n' 3 [v0] = some y0 from t0)
  obtain ⟨n1, hn1, _, w1⟩ := DataW.trod_int Try.underlying3 (show DataW.trod enc Try.prog W 0 (fun _ => true) true n' 3 [v1] = some y1 from t1)
  obtain ⟨n2, hn2, _, w2⟩ := DataW.trod_int Try.underlying3 (show DataW.trod enc Try.prog W 0 (fun _ => true) true n' 3 [v2] = some y2 from t2)
  obtain ⟨n3, hn3, _, w3⟩ := DataW.trod_int Try.underlying2 (show DataW.trod enc Try.prog W 0 (fun _ => true) true n' 2 [v3] = some y3 from t3)
  obtain ⟨n4, hn4, _, w4⟩ := DataW.trod_int Try.underlying2 (show DataW.trod enc Try.prog W 0 (fun _ => true) true n' 2 [v4] = some y4 from t4)
  obtain ⟨n5, hn5, _, w5⟩ := DataW.trod_int Try.underlying2 (show DataW.trod enc Try.prog W 0 (fun _ => true) true n' 2 [v5] = some y5 from t5)
  obtain ⟨n6, hn6, _, w6⟩ := DataW.trod_int Try.underlying2 (show DataW.trod enc Try.prog W 0 (fun _ => true) true n' 2 [v6] = some y6 from t6)
  obtain ⟨n7, hn7, _⟩ := DataW.trod_bool Try.underlying4 (show DataW.trod enc Try.prog W 0 (fun _ => true) true n' 4 [v7] = some y7 from t7)
  obtain ⟨ea, en, ecap, es, rfl, hre, hel, heo, hle, hme, hne, _⟩ := ents_trod (show DataW.trod enc Try.prog W 0 (fun _ => true) true n' 22 [v8] = some y8 from t8)
  obtain ⟨n9, hn9, _, w9⟩ := DataW.trod_int Try.underlying2 (show DataW.trod enc Try.prog W 0 (fun _ => true) true n' 2 [v9] = some y9 from t9)
  obtain ⟨da, dl, dc, db, rfl, hdr, hd1, hd2, hd3, _⟩ := bytes_trod (show DataW.trod enc Try.prog W 0 (fun _ => true) true n' 23 [v10] = some y10 from t10)
  obtain ⟨n11, hn11, _⟩ := DataW.trod_bool Try.underlying4 (show DataW.trod enc Try.prog W 0 (fun _ => true) true n' 4 [v11] = some y11 from t11)
  obtain ⟨c, rfl, rfl, hc, hcl1, hcl2⟩ := conf_trod (show DataW.trod enc Try.prog W 0 (fun _ => true) true n' 26 [v12, v13] = some y12 from t12)
  simp only [List.cons.injEq, and_true] at hn0 hn1 hn2 hn3 hn4 hn5 hn6 hn7 hn9 hn11
  subst hn0 hn1 hn2 hn3 hn4 hn5 hn6 hn7 hn9 hn11
  refine ⟨⟨n0, n1, n2, n3, n4, n5, n6, n7, ea, en, ecap, es, n9, ⟨da, dl, dc, db⟩, n11, c⟩, rfl, ⟨hre, hel, heo, ⟨hle, hme⟩, ⟨hdr, hd1, hd2, hd3⟩, hc.1, hc.2⟩, ?_⟩
  simp only [maxLen] at hcl1 hcl2
  exact ⟨by omega, by omega⟩
end Go.Proofs.Ytcejamblndilbaa
