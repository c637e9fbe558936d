/- Submissions that came in, opened. -/
import Derived.Test.YtpknmfmpiachkaaGreatSub3
import Derived.Deep.Slices
import Derived.ProofKit
import Derived.OpenShut
import Derived.Deep.Fields
import Derived.ChangeSame
import Derived.Laws.Cover2
namespace Go.Proofs.YtpknmfmpiachkaaGreat
open Go.ChangeShapes Go.WideShapes Go.ChangeAt Go.RowKit Go.Deep
theorem own : ownKnob Tryz.prog.godebug = none := by kernel_rfl
theorem laidOut : laidOutB Tryz.prog = true := by kernel_rfl
theorem row_add0 (x : Addr) {W : World} {v : Value} (h : W.cell? x = some v) : ∃ b off, x = ⟨b, off, none⟩ := by
 obtain ⟨b, off, spot⟩ := x
 have hspot : spot = none := World.cell?_spot h
 subst hspot
 exact ⟨b, off, rfl⟩
theorem of64_of {n : Nat} (h : (Lit.float .f64 n).wf = true) : n < 18446744073709551616 := by
 simpa [Lit.wf] using h
theorem gather {α : Type} [Inhabited α] {W : World} {x : Addr} {len c : Nat} {cells : α → List Value} (hc0 : 0 < c) (hc : ∀ s, (cells s).length = c) {Q : α → Prop}
 (hE : ∀ i, i < len → ∃ s, (∀ j u, (cells s)[j]? = some u → W.cell? (x.add (i * c + j)) = some u) ∧ Q s) :
 ∃ vs : List α, RowN W (some x) c len (vs.flatMap cells) ∧ vs.length = len ∧ ∀ s ∈ vs, Q s := by
 obtain ⟨S, hS⟩ := Go.Deep.choose_lt hE
 have hcl : ∀ k, ((List.range k).map S).flatMap cells = (List.range k).flatMap fun i => cells (S i) := fun k => by rw [List.flatMap_map]
 have hlen : ∀ k, ((List.range k).flatMap fun i => cells (S i)).length = k * c := fun k => by
  induction k with
  | zero => simp
  | succ k ih => rw [List.range_succ, List.flatMap_append, List.length_append, ih]; simp [hc, Nat.succ_mul]
 refine ⟨(List.range len).map S, ⟨by rw [hcl, hlen], fun hn => ?_⟩, by simp, fun s hs => ?_⟩
 · obtain ⟨u0, hu0⟩ : ∃ u, (cells (S 0))[0]? = some u := ⟨_, List.getElem?_eq_getElem (by rw [hc]; exact hc0)⟩
   have h0 := (hS 0 hn).1 0 _ hu0
   have ha0 : x.add (0 * c + 0) = x := by simp [Addr.add]
   rw [ha0] at h0
   obtain ⟨b, off, rfl⟩ := row_add0 x h0
   refine ⟨b, off, rfl, fun j u hu => ?_⟩
   have hat : ∀ k, k ≤ len → ∀ j u, ((List.range k).flatMap fun i => cells (S i))[j]? = some u → W.cell? ⟨b, off + j, none⟩ = some u := fun k => by
    induction k with
    | zero => intro _ j u hu; simp at hu
    | succ k ih =>
      intro hk j u hu
      rw [List.range_succ, List.flatMap_append] at hu
      by_cases hj : j < k * c
      · rw [List.getElem?_append_left (by rw [hlen]; exact hj)] at hu
        exact ih (by omega) j u hu
      · rw [List.getElem?_append_right (by rw [hlen]; omega), hlen] at hu
        simp only [List.flatMap_cons, List.flatMap_nil, List.append_nil] at hu
        have hq := (hS k (by omega)).1 (j - k * c) u hu
        rw [add_plain] at hq
        rw [show off + j = off + (k * c + (j - k * c)) from by omega]
        exact hq
   rw [hcl] at hu
   exact hat len (Nat.le_refl _) j u hu
 · simp only [List.mem_map, List.mem_range] at hs
   obtain ⟨i, hi, rfl⟩ := hs
   exact (hS i hi).2
theorem ocells_f64 : Tryz.prog.cellsOf 63 = 1 := by kernel_rfl
theorem ocells_i64 : Tryz.prog.cellsOf 2 = 1 := by kernel_rfl
theorem ocells_bool : Tryz.prog.cellsOf 4 = 1 := by kernel_rfl
theorem ocells_fs : Tryz.prog.cellsOf 23 = 1 := by kernel_rfl
theorem ocells_ss : Tryz.prog.cellsOf 24 = 1 := by kernel_rfl
theorem ocells_span : Tryz.prog.cellsOf 101 = 4 := by kernel_rfl
theorem ocells_sub : Tryz.prog.cellsOf 26 = 6 := by kernel_rfl
theorem olist1 {α : Type} {l : List α} (h : l.length = 1) : ∃ a, l = [a] := by
 match l, h with
 | [a], _ => exact ⟨a, rfl⟩
theorem olist4 {α : Type} {l : List α} (h : l.length = 4) : ∃ a b c d, l = [a, b, c, d] := by
 match l, h with
 | [a, b, c, d], _ => exact ⟨a, b, c, d, rfl⟩
theorem olist6 {α : Type} {l : List α} (h : l.length = 6) : ∃ a b c d e f, l = [a, b, c, d, e, f] := by
 match l, h with
 | [a, b, c, d, e, f], _ => exact ⟨a, b, c, d, e, f, rfl⟩
set_option maxRecDepth 100000 in
theorem float_trod {H : Type} {enc : TypeId × Value → H} {W : World} {fuel : Nat} {v : Value} {x : DataW H × List MemPlace}
 (hf : DataW.trod enc Tryz.prog W 0 (fun _ => true) true fuel 63 [v] = some x) : ∃ b : Nat, v = .float .f64 b ∧ b < 18446744073709551616 := by
 cases fuel with
 | zero => simp [DataW.trod] at hf
 | succ n =>
   unfold DataW.trod at hf
   rw [Tryz.underlying63] at hf
   split at hf
   all_goals rename_i h1 h2
   all_goals first
    | (simp at h1; done)
    | (simp at h2; done)
    | (simp at hf; done)
    | (simp only [Option.some.injEq, TypeDesc.float.injEq] at h1
       subst h1
       simp only [List.cons.injEq, and_true] at h2
       subst h2
       split at hf
       · rename_i hw
         obtain ⟨rfl, hw⟩ := hw
         exact ⟨_, rfl, of64_of hw⟩
       · simp at hf)
theorem cellsF_flat (l : List Nat) : cellsF l = l.flatMap fun b => [Value.float .f64 b] := by
 induction l with
 | nil => rfl
 | cons x r ih => rw [List.flatMap_cons, ← ih]; rfl
set_option maxRecDepth 100000 in
theorem floats_trod {H : Type} {enc : TypeId × Value → H} {W : World} {fuel : Nat} {v : Value} {y : DataW H × List MemPlace}
 (hf : DataW.trod enc Tryz.prog W 0 (fun _ => true) true fuel 23 [v] = some y) :
 ∃ a cap, ∃ ws : List Nat, v = .slice a ws.length cap ∧ RowN W a 1 ws.length (cellsF ws) ∧ (∀ x ∈ ws, x < 18446744073709551616) ∧ ws.length ≤ 9223372036854775807 := by
 rcases open_slice Tryz.underlying23 hf with ⟨hcs, hx⟩ | ⟨x, len, cap, m, nf, D, Pl, hcs, _, hl, hm, hmm, hx, hel⟩
 · simp only [List.cons.injEq, and_true] at hcs
   subst hcs
   exact ⟨none, 0, [], rfl, RowN.nil _ _ _, fun _ h => absurd h List.not_mem_nil, by decide⟩
 · simp only [List.cons.injEq, and_true] at hcs
   subst hcs
   simp only [if_true] at hmm
   obtain ⟨vs, h1, h2, h3⟩ := gather (W := W) (x := x) (len := len) (c := 1) (cells := fun b : Nat => [Value.float .f64 b]) (Q := fun b => b < 18446744073709551616) (by decide) (fun _ => rfl) (fun i hi => by
    obtain ⟨cs', hc, ht⟩ := hel i (by omega)
    rw [ocells_f64] at hc
    obtain ⟨_, hcl, hat⟩ := World.cells?_some hc
    obtain ⟨v0, rfl⟩ := olist1 hcl
    obtain ⟨b, rfl, hb⟩ := float_trod ht
    refine ⟨b, fun j u hu => ?_, hb⟩
    have hj : j < 1 := by simpa using (List.getElem?_eq_some_iff.1 hu).1
    have h := hat j hj
    rw [Go.Deep.add_add] at h
    rw [h]
    exact hu)
   subst h2
   refine ⟨some x, cap, vs, rfl, by rw [cellsF_flat]; exact h1, h3, ?_⟩
   simp only [maxLen] at hm
   omega
set_option maxRecDepth 100000 in
set_option maxHeartbeats 800000 in
theorem spans_trod {H : Type} {enc : TypeId × Value → H} {W : World} {fuel : Nat} {v : Value} {y : DataW H × List MemPlace}
 (hf : DataW.trod enc Tryz.prog W 0 (fun _ => true) true fuel 24 [v] = some y) :
 ∃ a cap, ∃ ws : List Spn, v = .slice a ws.length cap ∧ RowN W a 4 ws.length (ws.flatMap Spn.cells) ∧ (∀ x ∈ ws, x.ok) ∧ ws.length ≤ 9223372036854775807 := by
 rcases open_slice Tryz.underlying24 hf with ⟨hcs, hx⟩ | ⟨x, len, cap, m, nf, D, Pl, hcs, _, hl, hm, hmm, hx, hel⟩
 · simp only [List.cons.injEq, and_true] at hcs
   subst hcs
   exact ⟨none, 0, [], rfl, RowN.nil _ _ _, fun _ h => absurd h List.not_mem_nil, by decide⟩
 · simp only [List.cons.injEq, and_true] at hcs
   subst hcs
   simp only [if_true] at hmm
   have : Inhabited Spn := ⟨⟨0, 0, false, false⟩⟩
   obtain ⟨vs, h1, h2, h3⟩ := gather (W := W) (x := x) (len := len) (c := 4) (cells := Spn.cells) (Q := Spn.ok) (by decide) (fun _ => rfl) (fun i hi => by
    obtain ⟨cs', hc, ht⟩ := hel i (by omega)
    rw [ocells_span] at hc
    obtain ⟨ys, n', _, hy, _, hyl, hff⟩ := DataW.trod_struct Tryz.underlying101 ht
    obtain ⟨_, hcl, hat⟩ := World.cells?_some hc
    obtain ⟨v0, v1, v2, v3, rfl⟩ := olist4 hcl
    have t0 : DataW.trod enc Tryz.prog W 0 (fun _ => true) true n' 63 (([v0, v1, v2, v3].drop 0).take (Tryz.prog.cellsOf 63)) = ys[0]? := hff 0 _ rfl
    have t1 : DataW.trod enc Tryz.prog W 0 (fun _ => true) true n' 63 (([v0, v1, v2, v3].drop 1).take (Tryz.prog.cellsOf 63)) = ys[1]? := hff 1 _ rfl
    have t2 : DataW.trod enc Tryz.prog W 0 (fun _ => true) true n' 4 (([v0, v1, v2, v3].drop 2).take (Tryz.prog.cellsOf 4)) = ys[2]? := hff 2 _ rfl
    have t3 : DataW.trod enc Tryz.prog W 0 (fun _ => true) true n' 4 (([v0, v1, v2, v3].drop 3).take (Tryz.prog.cellsOf 4)) = ys[3]? := hff 3 _ rfl
    rw [ocells_f64] at t0 t1
    rw [ocells_bool] at t2 t3
    obtain ⟨y0, e0⟩ : ∃ y, ys[0]? = some y := ⟨_, List.getElem?_eq_getElem (by rw [hyl]; decide)⟩
    obtain ⟨y1, e1⟩ : ∃ y, ys[1]? = some y := ⟨_, List.getElem?_eq_getElem (by rw [hyl]; decide)⟩
    obtain ⟨y2, e2⟩ : ∃ y, ys[2]? = some y := ⟨_, List.getElem?_eq_getElem (by rw [hyl]; decide)⟩
    obtain ⟨y3, e3⟩ : ∃ y, ys[3]? = some y := ⟨_, List.getElem?_eq_getElem (by rw [hyl]; decide)⟩
    rw [e0] at t0
    rw [e1] at t1
    rw [e2] at t2
    rw [e3] at t3
    obtain ⟨b0, rfl, hb0⟩ := float_trod (show DataW.trod enc Tryz.prog W 0 (fun _ => true) true n' 63 [v0] = some y0 from t0)
    obtain ⟨b1, rfl, hb1⟩ := float_trod (show DataW.trod enc Tryz.prog W 0 (fun _ => true) true n' 63 [v1] = some y1 from t1)
    obtain ⟨n2, hn2, _⟩ := DataW.trod_bool Tryz.underlying4 (show DataW.trod enc Tryz.prog W 0 (fun _ => true) true n' 4 [v2] = some y2 from t2)
    obtain ⟨n3, hn3, _⟩ := DataW.trod_bool Tryz.underlying4 (show DataW.trod enc Tryz.prog W 0 (fun _ => true) true n' 4 [v3] = some y3 from t3)
    simp only [List.cons.injEq, and_true] at hn2 hn3
    subst hn2 hn3
    refine ⟨⟨b0, b1, n2, n3⟩, fun j u hu => ?_, hb0, hb1⟩
    have hj : j < 4 := by simpa [Spn.cells] using (List.getElem?_eq_some_iff.1 hu).1
    have h := hat j hj
    rw [Go.Deep.add_add] at h
    rw [h]
    exact hu)
   subst h2
   refine ⟨some x, cap, vs, rfl, h1, h3, ?_⟩
   simp only [maxLen] at hm
   omega
def SubM.row (m : SubM) : List Value := [.int .i64 m.s.session, .int .i64 m.s.seq, .int .i64 m.s.snap, .slice m.ra m.s.reads.length m.rc, .slice m.sa m.s.spans.length m.sc, .slice m.wa m.s.writes.length m.wc]
set_option maxRecDepth 100000 in
set_option maxHeartbeats 800000 in
theorem sub_trod {H : Type} {enc : TypeId × Value → H} {W : World} {fuel : Nat} {cs : List Value} {y : DataW H × List MemPlace}
 (hcl : cs.length = 6) (hf : DataW.trod enc Tryz.prog W 0 (fun _ => true) true fuel 26 cs = some y) : ∃ m : SubM, cs = m.row ∧ m.ok W := by
 obtain ⟨ys, n', _, hy, _, hyl, hff⟩ := DataW.trod_struct Tryz.underlying26 hf
 obtain ⟨v0, v1, v2, v3, v4, v5, rfl⟩ := olist6 hcl
 have t0 : DataW.trod enc Tryz.prog W 0 (fun _ => true) true n' 2 (([v0, v1, v2, v3, v4, v5].drop 0).take (Tryz.prog.cellsOf 2)) = ys[0]? := hff 0 _ rfl
 have t1 : DataW.trod enc Tryz.prog W 0 (fun _ => true) true n' 2 (([v0, v1, v2, v3, v4, v5].drop 1).take (Tryz.prog.cellsOf 2)) = ys[1]? := hff 1 _ rfl
 have t2 : DataW.trod enc Tryz.prog W 0 (fun _ => true) true n' 2 (([v0, v1, v2, v3, v4, v5].drop 2).take (Tryz.prog.cellsOf 2)) = ys[2]? := hff 2 _ rfl
 have t3 : DataW.trod enc Tryz.prog W 0 (fun _ => true) true n' 23 (([v0, v1, v2, v3, v4, v5].drop 3).take (Tryz.prog.cellsOf 23)) = ys[3]? := hff 3 _ rfl
 have t4 : DataW.trod enc Tryz.prog W 0 (fun _ => true) true n' 24 (([v0, v1, v2, v3, v4, v5].drop 4).take (Tryz.prog.cellsOf 24)) = ys[4]? := hff 4 _ rfl
 have t5 : DataW.trod enc Tryz.prog W 0 (fun _ => true) true n' 23 (([v0, v1, v2, v3, v4, v5].drop 5).take (Tryz.prog.cellsOf 23)) = ys[5]? := hff 5 _ rfl
 rw [ocells_i64] at t0 t1 t2
 rw [ocells_fs] at t3 t5
 rw [ocells_ss] at t4
 obtain ⟨y0, e0⟩ : ∃ y, ys[0]? = some y := ⟨_, List.getElem?_eq_getElem (by rw [hyl]; decide)⟩
 obtain ⟨y1, e1⟩ : ∃ y, ys[1]? = some y := ⟨_, List.getElem?_eq_getElem (by rw [hyl]; decide)⟩
 obtain ⟨y2, e2⟩ : ∃ y, ys[2]? = some y := ⟨_, List.getElem?_eq_getElem (by rw [hyl]; decide)⟩
 obtain ⟨y3, e3⟩ : ∃ y, ys[3]? = some y := ⟨_, List.getElem?_eq_getElem (by rw [hyl]; decide)⟩
 obtain ⟨y4, e4⟩ : ∃ y, ys[4]? = some y := ⟨_, List.getElem?_eq_getElem (by rw [hyl]; decide)⟩
 obtain ⟨y5, e5⟩ : ∃ y, ys[5]? = some y := ⟨_, List.getElem?_eq_getElem (by rw [hyl]; decide)⟩
 rw [e0] at t0
 rw [e1] at t1
 rw [e2] at t2
 rw [e3] at t3
 rw [e4] at t4
 rw [e5] at t5
 obtain ⟨n0, hn0, _, w0⟩ := DataW.trod_int Tryz.underlying2 (show DataW.trod enc Tryz.prog W 0 (fun _ => true) true n' 2 [v0] = some y0 from t0)
 obtain ⟨n1, hn1, _, w1⟩ := DataW.trod_int Tryz.underlying2 (show DataW.trod enc Tryz.prog W 0 (fun _ => true) true n' 2 [v1] = some y1 from t1)
 obtain ⟨n2, hn2, _, w2⟩ := DataW.trod_int Tryz.underlying2 (show DataW.trod enc Tryz.prog W 0 (fun _ => true) true n' 2 [v2] = some y2 from t2)
 obtain ⟨ra, rc, rs, rfl, hr1, hr2, hr3⟩ := floats_trod (show DataW.trod enc Tryz.prog W 0 (fun _ => true) true n' 23 [v3] = some y3 from t3)
 obtain ⟨sa, sc, ss, rfl, hs1, hs2, hs3⟩ := spans_trod (show DataW.trod enc Tryz.prog W 0 (fun _ => true) true n' 24 [v4] = some y4 from t4)
 obtain ⟨wa, wc', ws, rfl, hw1, hw2, hw3⟩ := floats_trod (show DataW.trod enc Tryz.prog W 0 (fun _ => true) true n' 23 [v5] = some y5 from t5)
 simp only [List.cons.injEq, and_true] at hn0 hn1 hn2
 subst hn0 hn1 hn2
 exact ⟨⟨⟨n0, n1, n2, rs, ss, ws⟩, ra, rc, sa, sc, wa, wc'⟩, rfl, ⟨⟨hr2, hs2, hw2⟩, hr1, hs1, hw1, hr3, hs3, hw3⟩⟩
set_option maxRecDepth 100000 in
theorem open_subs {H : Type} {enc : TypeId × Value → H} {W : World} {r : Reach} {b0 : Nat} {v : Value} {d : DataW H} {p : List MemPlace}
 (hv : Value.okWide Tryz.prog W r b0 22 v) (h : DataW.Trod enc Tryz.prog W 0 (fun _ => true) true 22 v d p) :
 ∃ a len cap, ∃ ms : List SubM, v = .slice a len cap ∧ RowN W a 6 len (ms.flatMap SubM.row) ∧ ms.length = len ∧ len ≤ 9223372036854775807 ∧ ∀ m ∈ ms, m.ok W := by
 obtain ⟨a, len, cap, rfl⟩ := okWide_slice Tryz.underlying22 hv
 obtain ⟨fuel, hf⟩ := h
 rcases open_slice Tryz.underlying22 hf with ⟨hcs, hx⟩ | ⟨x, len, cap, m, nf, D, Pl, hcs, _, hl, hm, hmm, hx, hel⟩
 · simp [Value.cells] at hcs
   obtain ⟨rfl, rfl, rfl⟩ := hcs
   exact ⟨none, 0, 0, [], rfl, RowN.nil _ _ _, rfl, by decide, fun _ h => absurd h List.not_mem_nil⟩
 · simp [Value.cells] at hcs
   obtain ⟨rfl, rfl, rfl⟩ := hcs
   simp only [if_true] at hmm
   have : Inhabited SubM := ⟨⟨⟨0, 0, 0, [], [], []⟩, none, 0, none, 0, none, 0⟩⟩
   obtain ⟨vs, h1, h2, h3⟩ := gather (W := W) (x := x) (len := len) (c := 6) (cells := SubM.row) (Q := fun m => m.ok W) (by decide) (fun _ => rfl) (fun i hi => by
    obtain ⟨cs', hc, ht⟩ := hel i (by omega)
    rw [ocells_sub] at hc
    obtain ⟨_, hcl, hat⟩ := World.cells?_some hc
    obtain ⟨m, rfl, hok⟩ := sub_trod hcl ht
    refine ⟨m, fun j u hu => ?_, hok⟩
    have hj : j < 6 := by simpa [SubM.row] using (List.getElem?_eq_some_iff.1 hu).1
    have h := hat j hj
    rw [Go.Deep.add_add] at h
    rw [h]
    exact hu)
   refine ⟨some x, len, cap, vs, rfl, h1, h2, ?_, h3⟩
   simp only [maxLen] at hm
   omega
end Go.Proofs.YtpknmfmpiachkaaGreat
