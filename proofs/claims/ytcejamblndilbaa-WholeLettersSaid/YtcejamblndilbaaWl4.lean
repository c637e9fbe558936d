/- slices.Backward over entries. -/
import Derived.RangeFuncNested
import Derived.RangeFuncBound
import Derived.RangeFuncCalls
import Derived.RangeFuncLeaves
import Derived.RangeFuncBox
import Derived.Shelf.Abstract
import Derived.Shelf.RegionOpen
import Derived.WalkKit
import Derived.OwnWalkIn
import Derived.TacticsInMore
import Derived.LoopNIn
import Derived.LoopIn
import Derived.Test.YtcejamblndilbaaWl1
namespace Go.Proofs.Ytcejamblndilbaa
open Go.RowKit Go.Shelf

attribute [local go_sem] Oper.semAt_some

/-- an entry, and where it stands -/
def BackE (es : List En) : Type := { x : Nat × En // es[x.1]? = some x.2 }
def En.val (e : En) : Value := .agg #[.int .i64 e.ix, .int .i64 e.tm, .int .i64 e.kd, .slice e.s.a e.s.len e.s.cap]
def encB (es : List En) (x : BackE es) : Array Value := #[.int .i64 (x.1.1 : Int), .agg #[.int .i64 x.1.2.ix, .int .i64 x.1.2.tm, .int .i64 x.1.2.kd, .slice x.1.2.s.a x.1.2.s.len x.1.2.s.cap]]
def entsB {es : List En} (pre : List (BackE es)) : List En := pre.map fun x => x.1.2
theorem rev_take {es : List En} {k j : Nat} {e : En} (hj : es.length = k + 1 + j) (he : es[j]? = some e) : es.reverse.take (k + 1) = es.reverse.take k ++ [e] := by
  have h : es.reverse[k]? = some e := by
    rw [List.getElem?_reverse (by omega), show es.length - 1 - k = j by omega]
    exact he
  rw [List.take_add_one, h]
  rfl
theorem RowN.belowB {w w' : World} {n₀ : Nat} {a : Option Addr} {size n : Nat} {vs : List Value} (h : RowN w a size n vs) (hb : Below n₀ w w') (ha : ∀ b off, a = some ⟨b, off, none⟩ → 0 < n → b < n₀) : RowN w' a size n vs := by
  refine ⟨h.1, fun hn => ?_⟩
  obtain ⟨b, off, e, hc⟩ := h.2 hn
  by_cases hs : 0 < n
  · exact ⟨b, off, e, fun j u hu => (hb.cell (p := ⟨b, off + j, none⟩) (ha b off e hs)).trans (hc j u hu)⟩
  · omega

set_option maxRecDepth 100000 in
set_option maxHeartbeats 3200000 in
theorem back1_in (F : Fence) (n : Nat) (hf : F.fn 106) (hro : F.round = none) (hn : 1 ≤ n) (l Bs n₀ : Nat) (ae : Option Addr) (len cap : Nat) (es : List En) (hlen : es.length = len) (hbig : len ≤ 2000000000000)
    (hb : ∀ b off, ae = some ⟨b, off, none⟩ → 0 < len → b < n₀) (hBs : Bs < n₀) (J Jx : List (BackE es) → World → Prop)
    (hY : ∀ pre x W, J pre W → pre.length < len → YieldAt F (n - 1) Try.prog l (encB es x) W fun e W' =>
      (e = .returned (.bool true) ∧ J (pre ++ [x]) W' ∧ Below n₀ W W') ∨ (e = .returned (.bool false) ∧ Jx (pre ++ [x]) W'))
    (W : World) (hBc : W.cell? ⟨Bs, 0, none⟩ = some (.slice ae len cap)) (hrow : RowN W ae 4 len (es.flatMap En.cells)) (h0 : J [] W) :
    CallsIn F n Try.prog 106 #[.func (.yield l) #[] #[], .pointer (some ⟨Bs, 0, none⟩)] W fun e W' => (∃ v, e = .returned v) ∧
      ((∃ ys, entsB ys = es.reverse ∧ J ys W') ∨ (∃ pre, (∃ k, k ≤ len ∧ entsB pre = es.reverse.take k) ∧ Jx pre W')) := by
  have HY := Lib.hid hY
  have HROW := Lib.hid hrow
  have HB := Lib.hid hb
  clear hY hrow hb
  have hw0 : IntKind.i64.wrap ((len : Int) - 1) = (len : Int) - 1 := by rw [IntKind.wrap_i64] <;> omega
  refine callsIn_of_wp Try.func106 rfl hf ?_ hro
  simp only [Try.ntmps106, List.size_toArray, List.length_cons, List.length_nil, Nat.reduceAdd, Nat.reduceSub, Array.replicate_succ, Array.replicate_zero, List.push_toArray, List.append_toArray, List.nil_append, List.cons_append]
  gi_wp2
  gi_loopw [3] (fun i wr => ∃ (k : Nat) (pre : List (BackE es)), k ≤ len ∧ i = .int .i64 ((len : Int) - 1 - k) ∧ pre.length = k ∧ Hid (entsB pre = es.reverse.take k) ∧ J pre wr ∧ Below n₀ W wr)
    (fun i _ => (intOf i + 1).toNat)
  case atStart => exact ⟨0, [], Nat.zero_le _, by simp, rfl, (show _ = _ by simp [entsB]), h0, Below.refl _ _⟩
  case round =>
    obtain ⟨k, pre, hk, rfl, hpl, HP, hJs, hnx⟩ := hrel
    have hbc := (hnx.cell (p := ⟨Bs, 0, none⟩) hBs).trans hBc
    by_cases hlt : k < len
    · obtain ⟨j, hj⟩ : ∃ j, len = k + 1 + j := ⟨len - 1 - k, by omega⟩
      have hji : (len : Int) - 1 - (k : Int) = (j : Int) := by omega
      obtain ⟨e, he⟩ : ∃ e, es[j]? = some e := ⟨_, List.getElem?_eq_getElem (by omega)⟩
      obtain ⟨b, off, hae, e0, e1, e2, e3⟩ := en_at (RowN.belowB HROW.out hnx HB.out) hlen j (by omega) e he
      subst hae
      have HE := Lib.hid he
      clear he
      obtain ⟨fn, tmps, assign, body, hy, hR⟩ := HY.out pre ⟨(j, e), HE.out⟩ wr hJs (by omega)
      dsimp only [encB] at hy
      have hjl : (j : Int) < (len : Int) := by omega
      have hj0 : (0 : Int) ≤ (j : Int) := by omega
      rw [hji]
      have hwj : IntKind.i64.wrap ((j : Int) - 1) = (j : Int) - 1 := by rw [IntKind.wrap_i64] <;> omega
      have HJI := Lib.hid hji
      have HHJ := Lib.hid hj
      clear hji hj
      gi_wp2
      refine hR.mono ?_
      rintro ee W3 (⟨rfl, hJ3, hk3⟩ | ⟨rfl, hJx3⟩)
      · gi_wp2
        go_roundw
        case rel =>
          refine ⟨k + 1, pre ++ [⟨(j, e), HE.out⟩], by omega, ?_, by rw [List.length_append, hpl]; rfl, ?_, hJ3, hnx.trans hk3⟩
          · congr 1
            have := HJI.out
            have := HHJ.out
            omega
          · show _ = _
            rw [rev_take (by rw [hlen]; exact HHJ.out) HE.out, ← HP.out, entsB, List.map_append]
            rfl
        case measure => simp [intOf]
      · gi_wp2
        refine bodyPost_ret (results_none rfl _ _ _) rfl ?_
        refine ⟨⟨_, rfl⟩, .inr ⟨_, ⟨k + 1, by omega, ?_⟩, hJx3⟩⟩
        rw [rev_take (by rw [hlen]; exact HHJ.out) HE.out, ← HP.out, entsB, List.map_append]
        rfl
    · obtain rfl : k = len := by omega
      have hneg : (k : Int) - 1 - (k : Int) = -1 := by omega
      rw [hneg]
      gi_wp2
      go_end0
      exact ⟨⟨_, rfl⟩, .inl ⟨pre, by rw [HP.out, List.take_of_length_le (by rw [List.length_reverse]; omega)], hJs⟩⟩
end Go.Proofs.Ytcejamblndilbaa
namespace Go.Proofs.Ytcejamblndilbaa
open Go.RowKit Go.Shelf

attribute [local go_sem] Oper.semAt_some

theorem backward_any (a : Option Addr) (len cap : Nat) (w : World) :
    Calls Try.prog 92 #[.slice a len cap] w fun e w' => e = .returned (.func (.func 106) #[] #[.pointer (some ⟨w.heap.size, 0, none⟩)]) ∧ w' = w.alloc (.cells #[.slice a len cap] 22) := by
  have hmf : ∀ (fn : Fn) (first cap : Array Value) (w : World), (Instr.makeFunc fn first cap).run Try.prog w = .ok (.func fn first cap) w := fun _ _ _ _ => rfl
  go_enter Try.func92, Try.ntmps92
  go_wp2_with fail
  go_ret
  exact ⟨rfl, rfl⟩

theorem backward_stops (F : Fence) (n : Nat) (hf : F.fn 106) (hro : F.round = none) (hn : 1 ≤ n) (Bs n₀ : Nat) (ae : Option Addr) (len cap : Nat) (es : List En) (hlen : es.length = len) (hbig : len ≤ 2000000000000) (w : World)
    (hb : ∀ b off, ae = some ⟨b, off, none⟩ → 0 < len → b < n₀) (hBs : Bs < n₀) (hn₀ : n₀ ≤ w.heap.size) (hBc : w.cell? ⟨Bs, 0, none⟩ = some (.slice ae len cap)) (hrow : RowN w ae 4 len (es.flatMap En.cells)) :
    SeqStopsK F n Try.prog 106 #[.pointer (some ⟨Bs, 0, none⟩)] (encB es) (Below n₀) (fun ys => entsB ys = es.reverse) (fun pre => ∃ k, k ≤ len ∧ entsB pre = es.reverse.take k) len w := fun l J Jx W hW _ _ hY h0 =>
  back1_in F n hf hro hn l Bs n₀ ae len cap es hlen hbig hb hBs J Jx hY W ((hW.cell (p := ⟨Bs, 0, none⟩) (by simp only; omega)).trans hBc) (hrow.below hW) h0

theorem lt_of_block' {w : World} {g : Nat} {o : Obj} (h : w.heap[g]? = some o) : g < w.heap.size := (Array.getElem?_eq_some_iff.1 h).1
theorem heap_kept {A B : World} {row : Option Nat} {B0 g : Nat} {cs : Array Value} {T : TypeId} {fr : Nat × Nat} (h : A.heap[g]? = some (.cells cs T fr)) (hg : A.grownBy B row) (hr : ∀ r, row = some r → B0 ≤ r ∧ ∃ o : Obj, A.heap[r]? = some o ∧ o.isCells = false) : B.heap[g]? = some (.cells cs T fr) :=
  (hg.block g (lt_of_block h) (fun e => by
    obtain ⟨_, o, ho, hc⟩ := hr g e.symm
    rw [h] at ho
    injection ho with ho
    subst ho
    cases hc)).trans h
theorem ownZ_kept {A B : World} {row : Option Nat} {B0 base : Nat} {s : Is} (h : OwnZ A base s) (hg : A.grownBy B row) (hr : ∀ r, row = some r → B0 ≤ r ∧ ∃ o : Obj, A.heap[r]? = some o ∧ o.isCells = false) : OwnZ B base s := by
  refine own_keep h fun g hgg hl => ?_
  rcases h.2 with ⟨h1, h2⟩ | ⟨g1, cp, cur, h1, _, hc, _⟩
  · rw [h1] at hgg
    cases hgg
  · rw [h1] at hgg
    injection hgg with hgg
    simp only at hgg
    subst hgg
    exact (heap_kept hc hg hr).trans hc.symm

theorem keepsFrom_touch {S : List Nat} {B : Nat} {W W' : World} (ht : Touch S W W') (hS : ∀ k ∈ S, k < B) : KeepsFrom B W W' :=
  ⟨ht.size, fun k o hB hk _ => (ht.block k (Array.getElem?_eq_some_iff.1 hk).1 (fun hm => by have := hS k hm; omega)).trans hk⟩

theorem results_cells2 {fn : Func} {p r : Tmp} {ty ty' : TypeId} (h : fn.results = #[.cell p ty, .cell r ty']) {tmps : Array Value} {P : Program} {w : World} {a b : Addr} {v u : Value} (ha : tmps.getD p undef = .pointer (some a)) (hl : (loadVar ty a).run P w = .ok v w) (hb : tmps.getD r undef = .pointer (some b)) (hm : (loadVar ty' b).run P w = .ok u w) :
    (results fn tmps).run P w = .ok (.tuple #[v, u]) w := by
  have h1 : (asAddr (tmps.getD p undef)).run P w = .ok a w := by rw [ha]; rfl
  have h2 : (asAddr (tmps.getD r undef)).run P w = .ok b w := by rw [hb]; rfl
  have e : (results fn tmps).run P w = ((asAddr (tmps.getD p undef)).run P w).andThen fun a w₁ => ((loadVar ty a).run P w₁).andThen fun v w₂ => ((asAddr (tmps.getD r undef)).run P w₂).andThen fun b w₃ => ((loadVar ty' b).run P w₃).andThen fun u w₄ => .ok (.tuple #[v, u]) w₄ := by
    simp only [results, h]
    simp [Sem.run_bind, Result.andThen]
  rw [e, h1]
  simp only [Result.andThen_ok, hl, h2, hm]
theorem load_i64 {w : World} {B : Nat} {x : Int} (h : w.heap[B]? = some (.cells #[.int .i64 x] 2 (0, 0))) : (loadVar 2 ⟨B, 0, none⟩).run Try.prog w = .ok (.int .i64 x) w := by
  have hc := cell_of_one h
  simp [loadVar, go_sem, hc]

/-- does an entry give a configuration, at an index? -/
def gives (i : Int) (e : En) : Bool := decide (e.kd = 2) && decide (e.ix ≤ i)
/-- the configuration at an index, and its entry's index -/
def confAtOf (ix : Int) (cf : List Int × List Int) (es : List En) (i : Int) : (List Int × List Int) × Int := match es.reverse.find? (gives i) with
  | none => (cf, ix)
  | some e => ((loadOf e.s.bs).getD ([], []), e.ix)

/-- between two rounds -/
def CatI (w : World) (i : Int) (es : List En) (pre : List (BackE es)) (W : World) : Prop :=
  (W.heap[w.heap.size]? = some (.cells #[.int .i64 i] 2 (0, 0)) ∧ W.heap[w.heap.size + 1]? = some (.cells #[.slice none 0 0, .slice none 0 0] 26 (0, 0)) ∧ W.heap[w.heap.size + 2]? = some (.cells #[.int .i64 0] 2 (0, 0))) ∧ Below w.heap.size w W ∧ w.heap.size + 4 ≤ W.heap.size ∧ ∀ e ∈ entsB pre, gives i e = false
/-- a round has found it -/
def CatX (w : World) (i : Int) (es : List En) (B : Nat) (c : Code) (pre : List (BackE es)) (W : World) : Prop :=
  c = .ret ∧ ∃ ini last, entsB pre = ini ++ [last] ∧ (∀ e ∈ ini, gives i e = false) ∧ gives i last = true ∧ Below w.heap.size w W ∧ W.heap[w.heap.size + 2]? = some (.cells #[.int .i64 last.ix] 2 (0, 0)) ∧
    ∃ c' : Cf, c'.says = (loadOf last.s.bs).getD ([], []) ∧ W.heap[w.heap.size + 1]? = some (.cells #[.slice c'.v.a c'.v.len c'.v.cap, .slice c'.l.a c'.l.len c'.l.cap] 26 (0, 0)) ∧ OwnZ W B c'.v ∧ OwnZ W B c'.l

def catBox (w : World) (i : Int) : World := (((w.alloc (.cells #[.int .i64 i] 2)).alloc (.cells #[.slice none 0 0, .slice none 0 0] 26)).alloc (.cells #[.int .i64 0] 2))

set_option maxRecDepth 100000 in
set_option maxHeartbeats 6400000 in
theorem confAt_any (base N : Nat) (ix tm : Int) (c : Cf) (es : List En) (ae : Option Addr) (n cap : Nat) (i : Int) (w : World) (h : LogAt w base N ix tm c es ae n cap) (hn : n ≤ 2000000000000) (hcn : c.v.len ≤ 1000000000000 ∧ c.l.len ≤ 1000000000000) :
    Calls Try.prog 61 #[.pointer (some ⟨N, 0, none⟩), .int .i64 i] w fun e w' => ∃ v, e = .returned (.tuple #[v, .int .i64 (confAtOf ix c.says es i).2]) ∧ RetConf w (confAtOf ix c.says es i).1 (.returned v) w' := by
  obtain ⟨X, hX⟩ : ∃ X, X = catBox w i := ⟨_, rfl⟩
  have hXb : Below w.heap.size w X := hX ▸ below_alloc (below_alloc (below_alloc (Below.refl _ _) _) _) _
  have hXs : X.heap.size = w.heap.size + 3 := by rw [hX]; unfold catBox; simp
  have hXA : X.heap[w.heap.size]? = some (.cells #[.int .i64 i] 2 (0, 0)) := hX ▸ alloc_far (alloc_far (heap_alloc_new w _) (by simp)) (by simp; omega)
  have hXB : X.heap[w.heap.size + 1]? = some (.cells #[.slice none 0 0, .slice none 0 0] 26 (0, 0)) := hX ▸ alloc_far (alloc_new1 w _ _) (by simp)
  have hXC : X.heap[w.heap.size + 2]? = some (.cells #[.int .i64 0] 2 (0, 0)) := by
    have h1 := heap_alloc_new ((w.alloc (.cells #[.int .i64 i] 2)).alloc (.cells #[.slice none 0 0, .slice none 0 0] 26)) (.cells #[.int .i64 0] 2)
    rw [World.size_alloc, World.size_alloc] at h1
    rw [hX]
    exact h1
  have hLX := h.below hXb
  obtain ⟨⟨n0, n1, n2, n3, n4⟩, _⟩ := five_cells hLX.cell
  have H := Lib.hid h
  have HLX := Lib.hid hLX
  have HXB := Lib.hid hXb
  have HXS := Lib.hid hXs
  have HA := Lib.hid hXA
  have HB := Lib.hid hXB
  have HC := Lib.hid hXC
  have HX := Lib.hid hX
  rw [hX] at n0 n1 n2 n3 n4
  unfold catBox at n0 n1 n2 n3 n4
  clear h hLX hXb hXs hXA hXB hXC hX
  refine (callsIn_wide (n := 3)).1 (callsIn_of_wp_marks Try.func61 rfl (by simp [Fence.wide]) (wpIn_wide.2 ?_))
  simp only [Try.ntmps61, List.size_toArray, List.length_cons, List.length_nil, Nat.reduceAdd, Nat.reduceSub, Array.replicate_succ, Array.replicate_zero, List.push_toArray, List.append_toArray, List.nil_append, List.cons_append]
  go_wp2_with fail
  refine (backward_any ae n cap _).mono ?_
  rintro e w1 ⟨rfl, rfl⟩
  go_wp2_with fail
  obtain ⟨W0, hW0⟩ : ∃ W0, W0 = (catBox w i).alloc (.cells #[.slice ae n cap] 22) := ⟨_, rfl⟩
  have hWb : Below w.heap.size w W0 := by rw [hW0, ← HX.out]; exact below_alloc HXB.out _
  have hWs : W0.heap.size = w.heap.size + 4 := by rw [hW0, ← HX.out, World.size_alloc, HXS.out]
  have hWA : W0.heap[w.heap.size]? = some (.cells #[.int .i64 i] 2 (0, 0)) := by rw [hW0, ← HX.out]; exact alloc_far HA.out (by rw [HXS.out]; omega)
  have hWB : W0.heap[w.heap.size + 1]? = some (.cells #[.slice none 0 0, .slice none 0 0] 26 (0, 0)) := by rw [hW0, ← HX.out]; exact alloc_far HB.out (by rw [HXS.out]; omega)
  have hWC : W0.heap[w.heap.size + 2]? = some (.cells #[.int .i64 0] 2 (0, 0)) := by rw [hW0, ← HX.out]; exact alloc_far HC.out (by rw [HXS.out]; omega)
  have hWD : W0.cell? ⟨w.heap.size + 3, 0, none⟩ = some (.slice ae n cap) := by
    have h1 := heap_alloc_new X (.cells #[.slice ae n cap] 22)
    rw [HXS.out] at h1
    rw [hW0, ← HX.out]
    simp [World.cell?, h1]
  unfold catBox at hW0
  rw [← hW0]
  clear hW0 n0 n1 n2 n3 n4
  have hrow := RowN.of_own (H.out.below hWb).row
  have hae : ∀ b off, ae = some ⟨b, off, none⟩ → 0 < n → b < W0.heap.size := fun b off e hn0 => by
    have := (H.out.row.lt b (by rw [e]; rfl)).2
    omega
  have HWS := Lib.hid hWs
  refine (wpIn_wide (n := 3)).1 ?_
  refine wpIn_rangeFunc_ownH (F := Fence.wide) rfl (by omega) (gf := 106) (lb := #[.pointer (some ⟨w.heap.size + 3, 0, none⟩)]) rfl (by simp [Fence.wide]) (enters_of Try.func106 (by kernel_rfl) rfl)
    (backward_stops Fence.wide 2 (by simp [Fence.wide]) rfl (by omega) (w.heap.size + 3) W0.heap.size ae n cap es H.out.len hn W0 hae (by omega) (Nat.le_refl _) hWD hrow) belowK_t (belowK_b (Nat.le_refl _)) (Below.refl _ _) (fun _ => rfl)
    (CatI w i es) (CatX w i es W0.heap.size)
    (fun s X Y row hs hg hr => ⟨⟨heap_kept hs.1.1 hg hr, heap_kept hs.1.2.1 hg hr, heap_kept hs.1.2.2 hg hr⟩, ownFrom_below (β := Unit) (Nat.le_refl _) (by omega) () X Y row hs.2.1 hg hr, Nat.le_trans hs.2.2.1 hg.size, hs.2.2.2⟩)
    (fun cc s X Y row hs hg hr => by
      obtain ⟨h1, ini, last, h2, h3, h4, h5, h6, c', h7, h8, h9, h10⟩ := hs
      exact ⟨h1, ini, last, h2, h3, h4, ownFrom_below (β := Unit) (Nat.le_refl _) (by omega) () X Y row h5 hg hr, heap_kept h6 hg hr, c', h7, heap_kept h8 hg hr, ownZ_kept h9 hg hr, ownZ_kept h10 hg hr⟩)
    ⟨⟨hWA, hWB, hWC⟩, hWb, by omega, fun e he => by cases he⟩
    (fun x a' W => ∃ Bx, W0.heap.size ≤ Bx ∧ W.heap[Bx]? = some (.cells #[.int .i64 x.1.2.ix, .int .i64 x.1.2.tm, .int .i64 x.1.2.kd, .slice x.1.2.s.a x.1.2.s.len x.1.2.s.cap] 41 (0, 0)) ∧ a' = { tmps := #[.pointer (some ⟨N, 0, none⟩), .int .i64 i, undef, .pointer (some ⟨w.heap.size, 0, none⟩), .pointer (some ⟨w.heap.size + 1, 0, none⟩), .pointer (some ⟨w.heap.size + 2, 0, none⟩), undef, .pointer (some ⟨Bx, 0, none⟩), undef, undef, .pointer (some ⟨N, 0, none⟩), .pointer (some ⟨N, 0, none⟩), .pointer (some ⟨N, 4, none⟩), .slice ae n cap,
      .func (.func 106) #[] #[.pointer (some ⟨w.heap.size + 3, 0, none⟩)], .int .i64 (x.1.1 : Int), .agg #[.int .i64 x.1.2.ix, .int .i64 x.1.2.tm, .int .i64 x.1.2.kd, .slice x.1.2.s.a x.1.2.s.len x.1.2.s.cap], undef, undef, undef, undef, undef, undef, undef, undef, undef, undef, undef, undef, undef, undef, undef, undef, undef, undef, undef, undef, undef, undef, undef, undef, undef, undef, undef], defers := [] })
    (fun x a' _ X Y row hs hg hr => by obtain ⟨Bx, h1, h2, h3⟩ := hs; exact ⟨Bx, h1, heap_kept h2 hg hr, h3⟩)
    ?assign ?body ?done ?stop
  case assign =>
    rintro l pre x W K hI hK
    clear hWs
    have hzW := hI.2.1.size
    have HI := Lib.hid hI
    clear hI
    unfold encB
    gi_wp2
    exact hK _ _ (keepsFrom_touch (Touch.alloc [] _ _) (fun k hk => by cases hk)) ((Below.refl _ W).alloc (by have := HI.out.2.2.1; have := HWS.out; omega) _)
      ⟨⟨alloc_far HI.out.1.1 (lt_of_block HI.out.1.1), alloc_far HI.out.1.2.1 (lt_of_block HI.out.1.2.1), alloc_far HI.out.1.2.2 (lt_of_block HI.out.1.2.2)⟩, HI.out.2.1.alloc hzW _, by rw [World.size_alloc]; have := HI.out.2.2.1; omega, HI.out.2.2.2⟩ ⟨W.heap.size, by have := HI.out.2.2.1; have := HWS.out; omega, heap_alloc_new _ _, rfl⟩
  case body =>
    rintro l pre x a' W hl ⟨r, hr⟩ hI ⟨Bx, hBx, hbx, rfl⟩ hlt
    clear hWs
    have hzW := hI.2.1.size
    have hnext : gives i x.1.2 = false → CatI w i es (pre ++ [x]) W := fun hg => ⟨hI.1, hI.2.1, hI.2.2.1, fun e he => by
      rw [entsB, List.map_append] at he
      rcases List.mem_append.1 he with he | he
      · exact hI.2.2.2 e he
      · rw [List.map_singleton, List.mem_singleton] at he
        rw [he]
        exact hg⟩
    have HN := Lib.hid hnext
    clear hnext
    obtain ⟨⟨b0, b1, b2, b3⟩, _⟩ := four_cells hbx
    obtain ⟨x0, x1⟩ : W.cell? ⟨w.heap.size, 0, none⟩ = some (.int .i64 i) ∧ True := ⟨by simp [World.cell?, hI.1.1], trivial⟩
    have HI := Lib.hid hI
    clear hI hr hl
    by_cases hk2 : x.1.2.kd = 2
    · have hk2' : (x.1.2.kd == 2) = true := by simp [hk2]
      by_cases hxi : x.1.2.ix ≤ i
      · have hgv : gives i x.1.2 = true := by rw [gives, decide_eq_true hk2, decide_eq_true hxi]; rfl
        have hso : Row8 W x.1.2.s.a x.1.2.s.len x.1.2.s.bs ∧ x.1.2.s.len ≤ x.1.2.s.cap ∧ x.1.2.s.cap ≤ maxLen ∧ (x.1.2.s.a = none → x.1.2.s.cap = 0) := by
          have h1 := H.out.own x.1.2 (List.mem_of_getElem? x.2)
          exact ⟨h1.row.below HI.out.2.1, h1.cap.1, h1.cap.2, h1.nocap⟩
        have hld0 := load_any x.1.2.s.a x.1.2.s.len x.1.2.s.cap x.1.2.s.bs W hso.1 hso.2.1 hso.2.2.1 hso.2.2.2
        obtain ⟨cd, hcd⟩ : ∃ cd : Int, cd = (if loadOf x.1.2.s.bs = none then 30 else 0) := ⟨_, rfl⟩
        have hld : Calls Try.prog 85 #[.slice x.1.2.s.a x.1.2.s.len x.1.2.s.cap] W fun e w' => ∃ v, e = .returned (.tuple #[v, .int .i64 cd]) ∧ RetConf W ((loadOf x.1.2.s.bs).getD ([], [])) (.returned v) w' := by
          rw [hcd]
          exact hld0
        have HLD := Lib.hid hld
        have HGV := Lib.hid hgv
        clear hk2 hso hld hgv hcd hld0
        have h1' : 1 ≤ 3 - 1 - 1 := by omega
        gi_wp2_with (refine ⟨trivial, ?_⟩; gi_at_call 85; refine (CallsIn.inRound l (callsIn_wide.2 HLD.out)).mono ?_; rintro e w2 ⟨v, rfl, c', hv, hs, ho1, ho2, hb⟩; injection hv with hv; subst hv; have HS := Lib.hid hs; have HO1 := Lib.hid ho1; have HO2 := Lib.hid ho2; have HB2 := Lib.hid hb; clear hs ho1 ho2 hb)
        obtain ⟨Y, hY⟩ : ∃ Y, Y = w2.alloc (.cells #[.slice c'.v.a c'.v.len c'.v.cap, .slice c'.l.a c'.l.len c'.l.cap] 26) := ⟨_, rfl⟩
        have hbY : Below W.heap.size W Y := hY ▸ below_alloc HB2.out _
        have hY8 : Y.heap[w2.heap.size]? = some (.cells #[.slice c'.v.a c'.v.len c'.v.cap, .slice c'.l.a c'.l.len c'.l.cap] 26 (0, 0)) := hY ▸ heap_alloc_new w2 _
        have ho1 : OwnZ Y W.heap.size c'.v := hY ▸ own_keep HO1.out fun g _ hl => alloc_far rfl hl
        have ho2 : OwnZ Y W.heap.size c'.l := hY ▸ own_keep HO2.out fun g _ hl => alloc_far rfl hl
        have hzY : W.heap.size ≤ w2.heap.size := HB2.out.size
        rw [← hY]
        clear b0 b1 b2 b3 x0 hY
        obtain ⟨⟨b0, b1, b2, b3⟩, _⟩ := four_cells ((hbY.block Bx (lt_of_block hbx)).trans hbx)
        obtain ⟨d0, d1, _, _⟩ := two_cells hY8
        have hp4 := (hbY.block _ (lt_of_block HI.out.1.2.1)).trans HI.out.1.2.1
        have hp5 := (hbY.block _ (lt_of_block HI.out.1.2.2)).trans HI.out.1.2.2
        obtain ⟨p0, p1, f0, f1⟩ := two_cells hp4
        have q0 := cell_of_one hp5
        have q1 := free_of_one hp5
        have HBY := Lib.hid hbY
        have HP4 := Lib.hid hp4
        have HP5 := Lib.hid hp5
        have HO1' := Lib.hid ho1
        have HO2' := Lib.hid ho2
        clear hbY hY8 hp4 hp5 ho1 ho2 hbx
        have hmo : Try.prog.follows .mixedOrders = true := by kernel_rfl
        have hws := HWS.out
        have hwz := HI.out.2.2.1
        have e1 : Bx ≠ w.heap.size + 1 := by omega
        have e2 : w.heap.size + 1 ≠ Bx := by omega
        have e3 : Bx ≠ w.heap.size + 2 := by omega
        have e4 : w.heap.size + 2 ≠ Bx := by omega
        have e5 : w2.heap.size ≠ w.heap.size + 1 := by omega
        have e6 : w.heap.size + 1 ≠ w2.heap.size := by omega
        have e7 : w2.heap.size ≠ w.heap.size + 2 := by omega
        have e8 : w.heap.size + 2 ≠ w2.heap.size := by omega
        have hfin : KeepsFrom W0.heap.size W (((Y.setCell ⟨w.heap.size + 1, 0, none⟩ (.slice c'.v.a c'.v.len c'.v.cap)).setCell ⟨w.heap.size + 1, 1, none⟩ (.slice c'.l.a c'.l.len c'.l.cap)).setCell ⟨w.heap.size + 2, 0, none⟩ (.int .i64 x.1.2.ix)).drew ∧
            CatX w i es W0.heap.size .ret (pre ++ [x]) (((Y.setCell ⟨w.heap.size + 1, 0, none⟩ (.slice c'.v.a c'.v.len c'.v.cap)).setCell ⟨w.heap.size + 1, 1, none⟩ (.slice c'.l.a c'.l.len c'.l.cap)).setCell ⟨w.heap.size + 2, 0, none⟩ (.int .i64 x.1.2.ix)).drew := by
          have ht : Touch [w.heap.size + 1, w.heap.size + 2] Y (((Y.setCell ⟨w.heap.size + 1, 0, none⟩ (.slice c'.v.a c'.v.len c'.v.cap)).setCell ⟨w.heap.size + 1, 1, none⟩ (.slice c'.l.a c'.l.len c'.l.cap)).setCell ⟨w.heap.size + 2, 0, none⟩ (.int .i64 x.1.2.ix)).drew :=
            Touch.drew (touch_set (touch_set (touch_set (Touch.refl _ _) _ _ _ (by simp)) _ _ _ (by simp)) _ _ _ (by simp))
          have htW := (Touch.of_below (S := [w.heap.size + 1, w.heap.size + 2]) HBY.out).trans ht
          have hzY2 := HBY.out.size
          refine ⟨keepsFrom_touch htW (fun k hk => by simp at hk; omega), rfl, entsB pre, x.1.2, by rw [entsB, List.map_append]; rfl, HI.out.2.2.2, HGV.out, htW.below HI.out.2.1 (by omega) (fun k hk => by simp at hk; omega), ?_, c', HS.out, ?_, ?_, ?_⟩
          · exact set_block (i := 0) (set_far (set_far HP5.out (by omega)) (by omega)) _
          · exact set_far (set_block (i := 1) (set_block (i := 0) HP4.out _) _) (by omega)
          · exact own_more (own_keep HO1'.out fun g hg hl => ht.block g hl (fun hm => by have := (HO1'.out.lt g hg).1; simp at hm; omega)) (by omega)
          · exact own_more (own_keep HO2'.out fun g hg hl => ht.block g hl (fun hm => by have := (HO2'.out.lt g hg).1; simp at hm; omega)) (by omega)
        have HFIN := Lib.hid hfin
        clear hws hwz hfin
        gi_region_with_o (first | fail)
        all_goals gi_wp2
        all_goals exact HFIN.out
      · have hgv : gives i x.1.2 = false := by rw [gives, decide_eq_false hxi, Bool.and_false]
        have hxi' : decide (x.1.2.ix ≤ i) = false := decide_eq_false hxi
        clear hk2
        gi_wp2
        exact ⟨KeepsFrom.refl _ _, Below.refl _ _, HN.out hgv⟩
    · have hk2' : (x.1.2.kd == 2) = false := beq_eq_false_iff_ne.2 hk2
      have hgv : gives i x.1.2 = false := by rw [gives, decide_eq_false hk2, Bool.false_and]
      gi_wp2
      exact ⟨KeepsFrom.refl _ _, Below.refl _ _, HN.out hgv⟩
  case done =>
    rintro D ys W hD hys hI hK
    clear hWs
    have hfind : es.reverse.find? (gives i) = none := List.find?_eq_none.2 (fun e he => by rw [hI.2.2.2 e (by rw [hys]; exact he)]; simp)
    have hco : confAtOf ix c.says es i = (c.says, ix) := by rw [confAtOf, hfind]
    have hLW := H.out.below hI.2.1
    have hcl := fun Z (hZ : Below W.heap.size W Z) => confClone_any c Z ((Cf.ok_of_own hLW.vo hLW.le).below hZ) hcn
    have hce : ∀ w', Below W.heap.size W w' → (w'.cell? ⟨N, 0, none⟩ = some (.int .i64 ix) ∧ w'.cell? ⟨N, 2, none⟩ = some (.slice c.v.a c.v.len c.v.cap) ∧ w'.cell? ⟨N, 3, none⟩ = some (.slice c.l.a c.l.len c.l.cap)) := fun w' hb => by
      obtain ⟨⟨c0, c1, c2, c3, c4⟩, _⟩ := five_cells (hLW.below hb).cell
      exact ⟨c0, c2, c3⟩
    have HCO := Lib.hid hco
    have HCL := Lib.hid hcl
    have HCE := Lib.hid hce
    have HI := Lib.hid hI
    have HK := Lib.hid hK
    have hNl := lt_of_block H.out.cell
    have e1 : N ≠ w.heap.size + 1 := by omega
    have e2 : w.heap.size + 1 ≠ N := by omega
    have e3 : N ≠ w.heap.size + 2 := by omega
    have e4 : w.heap.size + 2 ≠ N := by omega
    clear hfind hco hLW hcl hce hI hK hys
    go_wp2_with fail
    go_region_held3 (fun w' => w'.cell? ⟨N, 0, none⟩ = some (.int .i64 ix) ∧ w'.cell? ⟨N, 2, none⟩ = some (.slice c.v.a c.v.len c.v.cap) ∧ w'.cell? ⟨N, 3, none⟩ = some (.slice c.l.a c.l.len c.l.cap))
      (first | exact HCE.out _ hY2 | exact HCE.out _ (Below.refl _ _).drew | go_keep)
      (first
        | (go_at_call 58; refine (HCL.out _ (Below.refl _ _).drew).mono ?_; rintro e w2 ⟨c', rfl, hs2, hv2, hl2, hb2⟩; have hY2 : Below W.heap.size W w2 := below_then (Below.refl _ _).drew hb2; obtain ⟨z0, z1, y0, y1⟩ := two_cells ((hY2.block _ (lt_of_block HI.out.1.2.1)).trans HI.out.1.2.1); have z2 := cell_of_one ((hY2.block _ (lt_of_block HI.out.1.2.2)).trans HI.out.1.2.2); have y2 := free_of_one ((hY2.block _ (lt_of_block HI.out.1.2.2)).trans HI.out.1.2.2); have HS2 := Lib.hid hs2; have HV2 := Lib.hid hv2; have HL2 := Lib.hid hl2; clear hs2 hv2 hl2 hb2))
    all_goals
      go_wp2_with fail
      have htF : Touch [w.heap.size + 1, w.heap.size + 2] W (((w2.setCell ⟨w.heap.size + 1, 0, none⟩ (.slice c'.v.a c'.v.len c'.v.cap)).setCell ⟨w.heap.size + 1, 1, none⟩ (.slice c'.l.a c'.l.len c'.l.cap)).setCell ⟨w.heap.size + 2, 0, none⟩ (.int .i64 ix)) :=
        (Touch.of_below hY2).trans (touch_set (touch_set (touch_set (Touch.refl _ _) _ _ _ (by simp)) _ _ _ (by simp)) _ _ _ (by simp))
      have hws := HWS.out
      have hzW := HI.out.2.1.size
      have hz2 := hY2.size
      have hDl := lt_of_block' HK.out
      have hKF := (htF.block D hDl (by simp; omega)).trans HK.out
      have h4 := (hY2.block _ (lt_of_block HI.out.1.2.1)).trans HI.out.1.2.1
      have h5 := (hY2.block _ (lt_of_block HI.out.1.2.2)).trans HI.out.1.2.2
      have h6 := set_block (i := 0) (set_far (i := 1) (v := .slice c'.l.a c'.l.len c'.l.cap) (g' := w.heap.size + 1) (set_far (i := 0) (v := .slice c'.v.a c'.v.len c'.v.cap) (g' := w.heap.size + 1) h5 (by omega)) (by omega)) (.int .i64 ix)
      have h8 := set_far (i := 0) (v := .int .i64 ix) (g' := w.heap.size + 2) (set_block (i := 1) (set_block (i := 0) h4 (.slice c'.v.a c'.v.len c'.v.cap)) (.slice c'.l.a c'.l.len c'.l.cap)) (by omega)
      have k9 : ∀ s : Is, OwnZ w2 W.drew.heap.size s → OwnZ (((w2.setCell ⟨w.heap.size + 1, 0, none⟩ (.slice c'.v.a c'.v.len c'.v.cap)).setCell ⟨w.heap.size + 1, 1, none⟩ (.slice c'.l.a c'.l.len c'.l.cap)).setCell ⟨w.heap.size + 2, 0, none⟩ (.int .i64 ix)) w.heap.size s := fun s hs => own_more (own_keep hs fun g hg hl => (set_far (set_far (set_far rfl (by have h1 := (hs.lt g hg).1; rw [size_drew] at h1; have := HI.out.2.2.1; omega)) (by have h1 := (hs.lt g hg).1; rw [size_drew] at h1; have := HI.out.2.2.1; omega)) (by have h1 := (hs.lt g hg).1; rw [size_drew] at h1; have := HI.out.2.2.1; omega))) (by rw [size_drew]; omega)
      have h9 := k9 _ HV2.out
      have h10 := k9 _ HL2.out
      have hb := htF.below HI.out.2.1 hzW (fun k hk => by simp at hk; omega)
      have hgr := grownBy_putObj' (((w2.setCell ⟨w.heap.size + 1, 0, none⟩ (.slice c'.v.a c'.v.len c'.v.cap)).setCell ⟨w.heap.size + 1, 1, none⟩ (.slice c'.l.a c'.l.len c'.l.cap)).setCell ⟨w.heap.size + 2, 0, none⟩ (.int .i64 ix)) D (.deferred none)
      have hro : ∀ r, some D = some r → W0.heap.size ≤ r ∧ ∃ o : Obj, (((w2.setCell ⟨w.heap.size + 1, 0, none⟩ (.slice c'.v.a c'.v.len c'.v.cap)).setCell ⟨w.heap.size + 1, 1, none⟩ (.slice c'.l.a c'.l.len c'.l.cap)).setCell ⟨w.heap.size + 2, 0, none⟩ (.int .i64 ix)).heap[r]? = some o ∧ o.isCells = false := fun r e => by cases e; exact ⟨hD, _, hKF, rfl⟩
      refine ⟨by simp, .inl ⟨_, _, rfl, run_takeDeferred hKF, ?_⟩⟩
      refine ⟨_, results_cells2 Try.results61 rfl (load_conf (heap_kept h8 hgr hro)) rfl (load_i64 (heap_kept h6 hgr hro)), ?_⟩
      rw [HCO.out]
      exact ⟨_, rfl, c', rfl, HS2.out, ownZ_kept h9 hgr hro, ownZ_kept h10 hgr hro, hb.grown hgr hb.size (fun k e => by cases e; omega)⟩
  case stop =>
    rintro D cc pre W hD ⟨k, hk, hpre⟩ hX hK
    clear hWs
    obtain ⟨rfl, ini, last, h2, h3, h4, h5, h6, c', h7, h8, h9, h10⟩ := hX
    have hfind : es.reverse.find? (gives i) = some last := by
      rw [← List.take_append_drop k es.reverse, ← hpre, h2, List.find?_append, List.find?_append]
      have hn0 : ini.find? (gives i) = none := List.find?_eq_none.2 (fun e he => by rw [h3 e he]; simp)
      rw [hn0]
      simp [h4]
    have hgr := grownBy_putObj' W D (.deferred none)
    have hro : ∀ r, some D = some r → W0.heap.size ≤ r ∧ ∃ o : Obj, W.heap[r]? = some o ∧ o.isCells = false := fun r e => by cases e; exact ⟨hD, _, hK, rfl⟩
    have h6' := heap_kept h6 hgr hro
    have h8' := heap_kept h8 hgr hro
    have h9' := ownZ_kept h9 hgr hro
    have h10' := ownZ_kept h10 hgr hro
    have hws := HWS.out
    have hbl : Below w.heap.size w (W.putObj D (.deferred none)) := h5.grown hgr h5.size (fun k e => by cases e; omega)
    have hco : confAtOf ix c.says es i = ((loadOf last.s.bs).getD ([], []), last.ix) := by rw [confAtOf, hfind]
    have HCO := Lib.hid hco
    have HF := Lib.hid (And.intro h6' (And.intro h8' (And.intro h9' (And.intro h10' hbl))))
    clear h6 h8 h9 h10 h6' h8' h9' h10' hbl hgr hro h5 hco hfind hws
    gi_wp2
    refine ⟨by simp, .inl ⟨_, _, rfl, run_takeDeferred hK, ?_⟩⟩
    obtain ⟨h6', h8', h9', h10', hbl⟩ := HF.out
    refine ⟨_, results_cells2 Try.results61 rfl (load_conf h8') rfl (load_i64 h6'), ?_⟩
    rw [HCO.out]
    exact ⟨_, rfl, c', rfl, h7, own_more h9' (by have := HWS.out; omega), own_more h10' (by have := HWS.out; omega), hbl⟩
end Go.Proofs.Ytcejamblndilbaa
namespace Go.Proofs.Ytcejamblndilbaa
open Go.RowKit

theorem RetConf.own {w w' : World} {says : List Int × List Int} {v : Value} (h : RetConf w says (.returned v) w') : ∃ c : Cf, v = .agg #[.slice c.v.a c.v.len c.v.cap, .slice c.l.a c.l.len c.l.cap] ∧ c.says = says ∧ OwnZ w' w.heap.size c.v ∧ OwnZ w' w.heap.size c.l ∧ Below w.heap.size w w' := by
  obtain ⟨c, hv, h1, h2, h3, h4⟩ := h
  injection hv with hv
  exact ⟨c, hv, h1, h2, h3, h4⟩
set_option maxRecDepth 100000 in
set_option maxHeartbeats 3200000 in
theorem Conf_any (base N : Nat) (ix tm : Int) (c : Cf) (es : List En) (ae : Option Addr) (n cap : Nat) (w : World) (h : LogAt w base N ix tm c es ae n cap) (hn : n ≤ 2000000000000) (hcn : c.v.len ≤ 1000000000000 ∧ c.l.len ≤ 1000000000000) :
    Calls Try.prog 24 #[.pointer (some ⟨N, 0, none⟩)] w fun e w' => ∃ v, e = .returned (.tuple #[v, .int .i64 (confAtOf ix c.says es (lastOf ix tm es).1).2]) ∧ RetConf w (confAtOf ix c.says es (lastOf ix tm es).1).1 (.returned v) w' := by
  have hX : Below w.heap.size w (w.alloc (.cells #[.slice none 0 0, .slice none 0 0] 26)) := below_alloc (Below.refl _ _) _
  have hA := heap_alloc_new w (.cells #[.slice none 0 0, .slice none 0 0] 26)
  have hl := last_any base N ix tm c es ae n cap _ (h.below hX) hn
  obtain ⟨⟨i, t⟩, hi⟩ : ∃ x, x = lastOf ix tm es := ⟨_, rfl⟩
  rw [← hi] at hl ⊢
  simp only at hl ⊢
  have hcf := fun Z (hZ : Below w.heap.size w Z) => confAt_any base N ix tm c es ae n cap i Z (h.below hZ) hn hcn
  obtain ⟨r, hr⟩ : ∃ r, r = confAtOf ix c.says es i := ⟨_, rfl⟩
  rw [← hr] at hcf ⊢
  have HL := Lib.hid hl
  have HCF := Lib.hid hcf
  have HX := Lib.hid hX
  have HA := Lib.hid hA
  clear hl h hr hX hA hcf hi
  go_enter Try.func24, Try.ntmps24
  go_wp2_with fail
  refine HL.out.mono ?_
  rintro e w1 ⟨rfl, hb1⟩
  have hb01 := below_then HX.out hb1
  have hA1 := (hb1.block _ (by rw [World.size_alloc]; omega)).trans HA.out
  have hz1 := lt_of_block hA1
  have HB01 := Lib.hid hb01
  have HA1 := Lib.hid hA1
  clear hb1 hb01 hA1
  go_wp2_with fail
  refine (HCF.out _ HB01.out).mono ?_
  rintro e w2 ⟨v, rfl, hc⟩
  obtain ⟨c', rfl, hs, h1, h2, hb⟩ := hc.own
  have hA2 := (hb.block _ hz1).trans HA1.out
  obtain ⟨z0, z1, y0, y1⟩ := two_cells hA2
  have HS := Lib.hid hs
  have H1 := Lib.hid h1
  have H2 := Lib.hid h2
  have HB := Lib.hid hb
  have HA2 := Lib.hid hA2
  clear hs h1 h2 hb hA2 hc
  go_wp2_with fail
  obtain ⟨e1, e2⟩ := conf_last (w := w) (B := w.heap.size) (c := c') HS.out (own_more H1.out (by omega)) (own_more H2.out (by omega)) (Nat.le_refl _) (below_then HB01.out HB.out) HA2.out
  exact bodyPost_ret (results_cell_tmp Try.results24 rfl (load_conf e1)) rfl ⟨_, rfl, e2⟩
/-- a row from its d-th element on -/
theorem RowN.dropN {w : World} {b off n d : Nat} {es : List En} (h : RowN w (some ⟨b, off, none⟩) 4 n (es.flatMap En.cells)) (hd : d ≤ n) : RowN w (some ⟨b, off + d * 4, none⟩) 4 (n - d) ((es.drop d).flatMap En.cells) := by
  rw [← drop4]
  refine ⟨by rw [List.length_drop, h.1]; omega, fun hn => ?_⟩
  obtain ⟨b', off', e, hc⟩ := h.2 (by omega)
  injection e with e
  injection e with e1 e2 _
  subst e1 e2
  refine ⟨b, off + d * 4, rfl, fun j u hu => ?_⟩
  rw [List.getElem?_drop] at hu
  have := hc _ u hu
  rw [show off + d * 4 + j = off + (d * 4 + j) by omega]
  exact this
theorem says_at {us vs : List En} (h : vs.map En.says = us.map En.says) (k : Nat) (v : En) (hv : vs[k]? = some v) : ∃ u, us[k]? = some u ∧ v.says = u.says := by
  have h1 : (vs.map En.says)[k]? = some v.says := by rw [List.getElem?_map, hv]; rfl
  rw [h, List.getElem?_map] at h1
  cases hu : us[k]? with
  | none => rw [hu] at h1; cases h1
  | some u =>
    rw [hu] at h1
    injection h1 with h1
    exact ⟨u, rfl, h1.symm⟩
/-- entries in memory of the call's own -/
structure OwnE (w : World) (base : Nat) (ls : List En) (ao : Option Addr) (n cap : Nat) : Prop where
  len : ls.length = n
  row : w.ownsRow base 41 4 (.slice ao n cap) n (ls.flatMap En.cells)
  own : ∀ l ∈ ls, Own8 w base l.s.a l.s.len l.s.cap l.s.bs
theorem OwnE.nil (w : World) (base : Nat) : OwnE w base [] none 0 0 := ⟨rfl, World.ownsRow_nil w base _ 4, fun v h => by cases h⟩
theorem OwnE.keep {w w' : World} {base : Nat} {ls : List En} {ao : Option Addr} {n cap : Nat} (h : OwnE w base ls ao n cap) (hk : ∀ g, base ≤ g → g < w.heap.size → w'.heap[g]? = w.heap[g]?) : OwnE w' base ls ao n cap :=
  ⟨h.len, own_keep h.row fun g hg hl => hk g (h.row.lt g hg).1 hl, fun v hv => own_keep (h.own v hv) fun g hg hl => hk g ((h.own v hv).lt g hg).1 hl⟩
theorem OwnE.snoc {w w' : World} {base : Nat} {ls : List En} {ao ao' : Option Addr} {n cap cap' : Nat} {l : En} (h : OwnE w base ls ao n cap) (hv : Own8 w base l.s.a l.s.len l.s.cap l.s.bs)
    (hrow : w'.ownsRow base 41 4 (.slice ao' (n + 1) cap') (n + 1) (ls.flatMap En.cells ++ l.cells)) (hg : w.grownBy w' (Value.ownBlock (.slice ao n cap))) : OwnE w' base (ls ++ [l]) ao' (n + 1) cap' := by
  have k : ∀ u : En, Own8 w base u.s.a u.s.len u.s.cap u.s.bs → Own8 w' base u.s.a u.s.len u.s.cap u.s.bs := fun u hu => own_keep hu fun g hb hl => hg.block g hl fun e => own_apart hu h.row (by decide) g hb e.symm
  refine ⟨by rw [List.length_append, h.len]; rfl, ?_, fun u hu => ?_⟩
  · rw [List.flatMap_append]
    simpa using hrow
  · rcases List.mem_append.1 hu with hu | hu
    · exact k u (h.own u hu)
    · rw [List.mem_singleton] at hu
      subst hu
      exact k u hv
/-- the entries from an index on, at most so many -/
def entriesOf (ix : Int) (es : List En) (fr most : Int) : List En :=
  let d := (max fr (ix + 1)) - ix - 1
  if es = [] ∨ ix + es.length < max fr (ix + 1) ∨ most ≤ 0 then [] else (es.drop d.toNat).take most.toNat
/-- It returns entries that say this, in memory of its own. -/
def RetEs (w : World) (us : List En) (e : Ending) (w' : World) : Prop :=
  ∃ ls ao cap, e = .returned (.slice ao us.length cap) ∧ ls.map En.says = us.map En.says ∧ OwnE w' w.heap.size ls ao us.length cap ∧ Below w.heap.size w w'
set_option maxRecDepth 100000 in
set_option maxHeartbeats 6400000 in
theorem entries_any (base N : Nat) (ix tm : Int) (c : Cf) (es : List En) (ae : Option Addr) (n cap : Nat) (fr most : Int) (w : World) (h : LogAt w base N ix tm c es ae n cap) (hs : Sound ix tm es) (hn : n ≤ 2000000000000) (hbig : ∀ e ∈ es, e.s.len ≤ 140737488355328) :
    Calls Try.prog 23 #[.pointer (some ⟨N, 0, none⟩), .int .i64 fr, .int .i64 most] w (RetEs w (entriesOf ix es fr most)) := by
  have hl := last_any base N ix tm c es ae n cap w h hn
  have hli := hs.last
  rw [h.len] at hli
  have hrx := hs.rx
  obtain ⟨⟨li, lt⟩, hlo⟩ : ∃ x, x = lastOf ix tm es := ⟨_, rfl⟩
  rw [← hlo] at hl hli
  simp only at hl hli
  have hlen := h.len
  have hw1 : IntKind.i64.wrap (ix + 1) = ix + 1 := by rw [IntKind.wrap_i64] <;> omega
  have hce : ∀ w', Below w.heap.size w w' → (w'.cell? ⟨N, 0, none⟩ = some (.int .i64 ix) ∧ w'.cell? ⟨N, 4, none⟩ = some (.slice ae n cap)) := fun w' hb => by
    obtain ⟨⟨c0, c1, c2, c3, c4⟩, _⟩ := five_cells (h.below hb).cell
    exact ⟨c0, c4⟩
  obtain ⟨f, hf⟩ : ∃ f, f = max fr (ix + 1) := ⟨_, rfl⟩
  have hfm : (fr < ix + 1 ∧ f = ix + 1) ∨ (¬ fr < ix + 1 ∧ f = fr) := by omega
  unfold entriesOf
  rw [← hf, hlen]
  have H := Lib.hid h
  have HL := Lib.hid hl
  have HCE := Lib.hid hce
  have HB := Lib.hid hbig
  have HLI := Lib.hid hli
  have hcap := own_cap h.row
  clear h hl hce hlo hs hbig hf
  by_cases hempty : es = []
  · subst hempty
    have hn0 : n = 0 := hlen.symm
    subst hn0
    rw [if_pos (.inl rfl)]
    clear hli
    rcases hfm with ⟨hm1, rfl⟩ | ⟨hm1, rfl⟩
    all_goals
      go_enter Try.func23, Try.ntmps23
      go_wp2_with fail
      refine HL.out.mono ?_
      rintro e w1 ⟨rfl, hb1⟩
      obtain ⟨c0, c4⟩ := HCE.out _ hb1
      go_wp2_with fail
      go_ret
      exact ⟨[], none, 0, rfl, rfl, OwnE.nil _ _, hb1⟩
  have hn0 : 0 < n := by rw [← hlen]; exact List.length_pos_iff.2 hempty
  have hne : ((n : Int) == 0) = false := by simp; omega
  by_cases hlast : ix + (n : Int) < f
  · rw [if_pos (.inr (.inl hlast))]
    have hll : li < f := by omega
    clear hli hempty
    rcases hfm with ⟨hm1, rfl⟩ | ⟨hm1, rfl⟩
    · omega
    all_goals
      go_enter Try.func23, Try.ntmps23
      go_wp2_with fail
      refine HL.out.mono ?_
      rintro e w1 ⟨rfl, hb1⟩
      obtain ⟨c0, c4⟩ := HCE.out _ hb1
      go_wp2_with fail
      go_ret
      exact ⟨[], none, 0, rfl, rfl, OwnE.nil _ _, hb1⟩
  have hll : ¬ li < f := by omega
  by_cases hmost : most ≤ 0
  · rw [if_pos (.inr (.inr hmost))]
    clear hli hempty
    rcases hfm with ⟨hm1, rfl⟩ | ⟨hm1, rfl⟩
    all_goals
      go_enter Try.func23, Try.ntmps23
      go_wp2_with fail
      refine HL.out.mono ?_
      rintro e w1 ⟨rfl, hb1⟩
      obtain ⟨c0, c4⟩ := HCE.out _ hb1
      go_wp2_with fail
      go_ret
      exact ⟨[], none, 0, rfl, rfl, OwnE.nil _ _, hb1⟩
  rw [if_neg (by intro hh; rcases hh with hh | hh | hh <;> first | exact hempty hh | omega)]
  obtain ⟨d, hd⟩ : ∃ d : Nat, f - ix - 1 = (d : Int) := ⟨(f - ix - 1).toNat, by omega⟩
  have hdt : (f - ix - 1).toNat = d := by omega
  have hdn : d < n := by omega
  rw [hdt]
  obtain ⟨q, hq⟩ : ∃ q : Nat, most = (q : Int) := ⟨most.toNat, by omega⟩
  have hqt : most.toNat = q := by omega
  rw [hqt]
  obtain ⟨m, hm⟩ : ∃ m : Nat, m = min (n - d) q := ⟨_, rfl⟩
  have hmm : (q < n - d ∧ m = q) ∨ (¬ q < n - d ∧ m = n - d) := by omega
  have hul : ((es.drop d).take q).length = m := by rw [List.length_take, List.length_drop, hlen, hm, Nat.min_comm]
  obtain ⟨us, hus⟩ : ∃ us, us = (es.drop d).take q := ⟨_, rfl⟩
  rw [← hus] at hul ⊢
  obtain ⟨b, hb⟩ : ∃ b, ae = some ⟨b, 0, none⟩ := by
    rcases H.out.row.2 with ⟨h1, h2⟩ | ⟨g, cp, cur, h1, _⟩
    · injection h1 with _ h3 _
      omega
    · injection h1 with h1 _ _
      exact ⟨g, h1⟩
  subst hb
  have hcd : ¬ cap = d := by omega
  have hd0 : (0 : Int) ≤ (d : Int) := by omega
  have hdi : (d : Int) ≤ (n : Int) := by omega
  have hdc : (d : Int) ≤ (cap : Int) := by omega
  have hnc : (n : Int) ≤ (cap : Int) := by omega
  have hq0 : (0 : Int) < (q : Int) := by omega
  have hw2 : IntKind.i64.wrap (f - ix) = (d : Int) + 1 := by rw [IntKind.wrap_i64] <;> omega
  have hw3 : IntKind.i64.wrap ((d : Int) + 1 - 1) = (d : Int) := by rw [IntKind.wrap_i64] <;> omega
  have hw4 : IntKind.i64.wrap (d : Int) = (d : Int) := by rw [IntKind.wrap_i64] <;> omega
  have HUS := Lib.hid hus
  have HUL := Lib.hid hul
  have HD := Lib.hid hd
  have HM := Lib.hid hmm
  subst hq
  clear hus hul hd hdt hqt hm hli hempty hmm
  rcases hfm with ⟨hm1, rfl⟩ | ⟨hm1, rfl⟩ <;> rcases HM.out with ⟨hq1, rfl⟩ | ⟨hq1, rfl⟩
  · have hqi : (m : Int) < ((n - d : Nat) : Int) := by omega
    have hqq : (m : Int) ≤ ((n - d : Nat) : Int) := by omega
    have hqc : (m : Int) ≤ ((cap - d : Nat) : Int) := by omega
    go_enter Try.func23, Try.ntmps23
    go_wp2_with fail
    refine HL.out.mono ?_
    rintro e w1 ⟨rfl, hb1⟩
    obtain ⟨c0, c4⟩ := HCE.out _ hb1
    have HB1 := Lib.hid hb1
    clear hb1
    go_wp2_with fail
    go_quiet (fail)
    go_wp2_with fail
    rw [show decide (m = 0) = false from decide_eq_false (by omega), Bool.or_false]
    go_loopw [9, 59] (fun v j wr => ∃ (k : Nat) (vs : List En) (ak : Option Addr) (ck : Nat), k ≤ m ∧ j = .int .i64 k ∧ v = .slice ak k ck ∧ vs.map En.says = (us.take k).map En.says ∧ OwnE wr w.heap.size vs ak k ck ∧ Below w.heap.size w wr) (fun _ j _ => m - (intOf j).toNat)
    case atStart => exact ⟨0, [], none, 0, by omega, rfl, rfl, by simp, OwnE.nil _ _, below_drewN HB1.out _⟩
    case round =>
      obtain ⟨k, vs, ak, ck, hk, rfl, rfl, hsay, hO, hbw⟩ := hrel
      have hsz := hbw.size
      by_cases hlt : k < m
      · have huk : (es.drop d)[k]? = us[k]? := by rw [HUS.out, List.getElem?_take, if_pos (by omega)]
        obtain ⟨u, hu⟩ : ∃ u, us[k]? = some u := ⟨_, List.getElem?_eq_getElem (by rw [HUL.out]; exact hlt)⟩
        rw [hu] at huk
        have hmem : u ∈ es := List.mem_of_mem_drop (List.mem_of_getElem? huk)
        have hrow := ((RowN.of_own (H.out.below hbw).row).dropN (show d ≤ n by omega))
        rw [Nat.zero_add] at hrow
        obtain ⟨b', off', he, e0, e1, e2, e3⟩ := en_at hrow (by rw [List.length_drop, hlen]) k (by omega) u huk
        injection he with he
        injection he with he1 he2 _
        subst he1 he2
        have hown := (H.out.below hbw).own u hmem
        have hbx : Below wr.heap.size wr (wr.alloc (.cells #[.int .i64 u.ix, .int .i64 u.tm, .int .i64 u.kd, .slice u.s.a u.s.len u.s.cap] 41)) := below_alloc (Below.refl _ _) _
        have hcl := clone_any u.s.a u.s.len u.s.cap u.s.bs _ (hown.row.below hbx) (fun e => by have := hown.nocap e; have := hown.cap.1; omega) (HB.out u hmem)
        have hbx2 : ∀ w2, Below (wr.alloc (.cells #[.int .i64 u.ix, .int .i64 u.tm, .int .i64 u.kd, .slice u.s.a u.s.len u.s.cap] 41)).heap.size (wr.alloc (.cells #[.int .i64 u.ix, .int .i64 u.tm, .int .i64 u.kd, .slice u.s.a u.s.len u.s.cap] 41)) w2 → w2.heap[wr.heap.size]? = some (.cells #[.int .i64 u.ix, .int .i64 u.tm, .int .i64 u.kd, .slice u.s.a u.s.len u.s.cap] 41 (0, 0)) := fun w2 hb => (hb.block _ (by rw [World.size_alloc]; omega)).trans (heap_alloc_new wr _)
        have hkl : (k : Int) < ((m : Nat) : Int) := by omega
        have HCL := Lib.hid hcl
        have HBX := Lib.hid hbx
        have HBX2 := Lib.hid hbx2
        have HO := Lib.hid hO
        have HBW := Lib.hid hbw
        have HU := Lib.hid hu
        have HSY := Lib.hid hsay
        clear huk hmem hrow hown hbx hcl hbx2 hO hbw hu hsay
        go_wp2_with fail
        refine HCL.out.mono ?_
        rintro e w2 ⟨aq, cq, rfl, hown2, hb2⟩
        obtain ⟨⟨b0, b1, b2, b3⟩, y0, y1, y2, y3⟩ := four_cells (HBX2.out _ hb2)
        obtain ⟨Y, hY⟩ : ∃ Y, Y = w2.setCell ⟨wr.heap.size, 3, none⟩ (.slice aq u.s.len cq) := ⟨_, rfl⟩
        have hbY : Below wr.heap.size wr Y := hY ▸ below_set (below_then HBX.out hb2) _ (Nat.le_refl _)
        have hYb : Y.heap[wr.heap.size]? = some (.cells #[.int .i64 u.ix, .int .i64 u.tm, .int .i64 u.kd, .slice aq u.s.len cq] 41 (0, 0)) := hY ▸ set_block (i := 3) (HBX2.out _ hb2) _
        have hoY : Own8 Y w.heap.size aq u.s.len cq u.s.bs := by
          rw [hY]
          exact own_more (own_keep hown2 fun g hg hl => Below.heap_setCell w2 _ _ g (by have := (hown2.lt g hg).1; rw [World.size_alloc] at this; simp; omega)) (by rw [World.size_alloc]; omega)
        have hOY := HO.out.keep (w' := Y) fun g _ hl => hbY.block g hl
        have HBY := Lib.hid hbY
        have HOY := Lib.hid hoY
        have HOO := Lib.hid hOY
        have hzY := hbY.size
        clear hown2 hb2 hbY hoY hOY
        subst hY
        go_wp2_with (at_builtin; refine wpList_appendE rfl (.tmp 67) (.tmp 69) rfl w.heap.size ak k ck (vs.flatMap En.cells) rfl (own_keep HOO.out.row fun g _ hl => alloc_far rfl hl) (some ⟨w2.heap.size, 0, none⟩) 1 1 (En.cells ⟨u.ix, u.tm, u.kd, ⟨aq, u.s.len, cq, u.s.bs⟩⟩) rfl (RowN.newH _ _ _ 4 1 _ _ rfl rfl (by simp [World.setCell])) (fun h => by cases h) (cells_one4 _) (by omega) (by rw [World.size_alloc]; omega) (k + 1) rfl ?_; intro ao3 cap3 w3 hown3 hg3 hat3)
        go_roundw
        case rel =>
          refine ⟨k + 1, vs ++ [⟨u.ix, u.tm, u.kd, ⟨aq, u.s.len, cq, u.s.bs⟩⟩], ao3, cap3, by omega, by go_num, rfl, ?_, OwnE.snoc (l := ⟨u.ix, u.tm, u.kd, ⟨aq, u.s.len, cq, u.s.bs⟩⟩) (HOO.out.keep fun g _ hl => alloc_far rfl hl) (own_keep HOY.out fun g _ hl => alloc_far rfl hl) hown3 hg3, (below_alloc (below_then HBW.out HBY.out) _).grown hg3 (by rw [World.size_alloc]; omega) (fun g hg => (HO.out.row.lt g hg).1)⟩
          rw [List.map_append, HSY.out, List.take_add_one, HU.out, List.map_append]
          rfl
        case measure => simp [intOf]; omega
      · have hke : k = m := by omega
        subst hke
        go_wp2_with fail
        go_ret
        exact ⟨vs, ak, ck, by rw [HUL.out]; rfl, by rw [hsay, List.take_of_length_le (by rw [HUL.out]; exact Nat.le_refl _)], by rw [HUL.out]; exact hO, hbw⟩
  · have hqi : ¬ (q : Int) < ((n - d : Nat) : Int) := by omega
    have hqq : ((n - d : Nat) : Int) ≤ (q : Int) := by omega
    have hqc : ((n - d : Nat) : Int) ≤ ((cap - d : Nat) : Int) := by omega
    go_enter Try.func23, Try.ntmps23
    go_wp2_with fail
    refine HL.out.mono ?_
    rintro e w1 ⟨rfl, hb1⟩
    obtain ⟨c0, c4⟩ := HCE.out _ hb1
    have HB1 := Lib.hid hb1
    clear hb1
    go_wp2_with fail
    go_quiet (fail)
    go_wp2_with fail
    rw [show decide (q = 0) = false from decide_eq_false (by omega), Bool.or_false]
    go_loopw [9, 59] (fun v j wr => ∃ (k : Nat) (vs : List En) (ak : Option Addr) (ck : Nat), k ≤ (n - d) ∧ j = .int .i64 k ∧ v = .slice ak k ck ∧ vs.map En.says = (us.take k).map En.says ∧ OwnE wr w.heap.size vs ak k ck ∧ Below w.heap.size w wr) (fun _ j _ => (n - d) - (intOf j).toNat)
    case atStart => exact ⟨0, [], none, 0, by omega, rfl, rfl, by simp, OwnE.nil _ _, below_drewN HB1.out _⟩
    case round =>
      obtain ⟨k, vs, ak, ck, hk, rfl, rfl, hsay, hO, hbw⟩ := hrel
      have hsz := hbw.size
      by_cases hlt : k < (n - d)
      · have huk : (es.drop d)[k]? = us[k]? := by rw [HUS.out, List.getElem?_take, if_pos (by omega)]
        obtain ⟨u, hu⟩ : ∃ u, us[k]? = some u := ⟨_, List.getElem?_eq_getElem (by rw [HUL.out]; exact hlt)⟩
        rw [hu] at huk
        have hmem : u ∈ es := List.mem_of_mem_drop (List.mem_of_getElem? huk)
        have hrow := ((RowN.of_own (H.out.below hbw).row).dropN (show d ≤ n by omega))
        rw [Nat.zero_add] at hrow
        obtain ⟨b', off', he, e0, e1, e2, e3⟩ := en_at hrow (by rw [List.length_drop, hlen]) k (by omega) u huk
        injection he with he
        injection he with he1 he2 _
        subst he1 he2
        have hown := (H.out.below hbw).own u hmem
        have hbx : Below wr.heap.size wr (wr.alloc (.cells #[.int .i64 u.ix, .int .i64 u.tm, .int .i64 u.kd, .slice u.s.a u.s.len u.s.cap] 41)) := below_alloc (Below.refl _ _) _
        have hcl := clone_any u.s.a u.s.len u.s.cap u.s.bs _ (hown.row.below hbx) (fun e => by have := hown.nocap e; have := hown.cap.1; omega) (HB.out u hmem)
        have hbx2 : ∀ w2, Below (wr.alloc (.cells #[.int .i64 u.ix, .int .i64 u.tm, .int .i64 u.kd, .slice u.s.a u.s.len u.s.cap] 41)).heap.size (wr.alloc (.cells #[.int .i64 u.ix, .int .i64 u.tm, .int .i64 u.kd, .slice u.s.a u.s.len u.s.cap] 41)) w2 → w2.heap[wr.heap.size]? = some (.cells #[.int .i64 u.ix, .int .i64 u.tm, .int .i64 u.kd, .slice u.s.a u.s.len u.s.cap] 41 (0, 0)) := fun w2 hb => (hb.block _ (by rw [World.size_alloc]; omega)).trans (heap_alloc_new wr _)
        have hkl : (k : Int) < (((n - d) : Nat) : Int) := by omega
        have HCL := Lib.hid hcl
        have HBX := Lib.hid hbx
        have HBX2 := Lib.hid hbx2
        have HO := Lib.hid hO
        have HBW := Lib.hid hbw
        have HU := Lib.hid hu
        have HSY := Lib.hid hsay
        clear huk hmem hrow hown hbx hcl hbx2 hO hbw hu hsay
        go_wp2_with fail
        refine HCL.out.mono ?_
        rintro e w2 ⟨aq, cq, rfl, hown2, hb2⟩
        obtain ⟨⟨b0, b1, b2, b3⟩, y0, y1, y2, y3⟩ := four_cells (HBX2.out _ hb2)
        obtain ⟨Y, hY⟩ : ∃ Y, Y = w2.setCell ⟨wr.heap.size, 3, none⟩ (.slice aq u.s.len cq) := ⟨_, rfl⟩
        have hbY : Below wr.heap.size wr Y := hY ▸ below_set (below_then HBX.out hb2) _ (Nat.le_refl _)
        have hYb : Y.heap[wr.heap.size]? = some (.cells #[.int .i64 u.ix, .int .i64 u.tm, .int .i64 u.kd, .slice aq u.s.len cq] 41 (0, 0)) := hY ▸ set_block (i := 3) (HBX2.out _ hb2) _
        have hoY : Own8 Y w.heap.size aq u.s.len cq u.s.bs := by
          rw [hY]
          exact own_more (own_keep hown2 fun g hg hl => Below.heap_setCell w2 _ _ g (by have := (hown2.lt g hg).1; rw [World.size_alloc] at this; simp; omega)) (by rw [World.size_alloc]; omega)
        have hOY := HO.out.keep (w' := Y) fun g _ hl => hbY.block g hl
        have HBY := Lib.hid hbY
        have HOY := Lib.hid hoY
        have HOO := Lib.hid hOY
        have hzY := hbY.size
        clear hown2 hb2 hbY hoY hOY
        subst hY
        go_wp2_with (at_builtin; refine wpList_appendE rfl (.tmp 67) (.tmp 69) rfl w.heap.size ak k ck (vs.flatMap En.cells) rfl (own_keep HOO.out.row fun g _ hl => alloc_far rfl hl) (some ⟨w2.heap.size, 0, none⟩) 1 1 (En.cells ⟨u.ix, u.tm, u.kd, ⟨aq, u.s.len, cq, u.s.bs⟩⟩) rfl (RowN.newH _ _ _ 4 1 _ _ rfl rfl (by simp [World.setCell])) (fun h => by cases h) (cells_one4 _) (by omega) (by rw [World.size_alloc]; omega) (k + 1) rfl ?_; intro ao3 cap3 w3 hown3 hg3 hat3)
        go_roundw
        case rel =>
          refine ⟨k + 1, vs ++ [⟨u.ix, u.tm, u.kd, ⟨aq, u.s.len, cq, u.s.bs⟩⟩], ao3, cap3, by omega, by go_num, rfl, ?_, OwnE.snoc (l := ⟨u.ix, u.tm, u.kd, ⟨aq, u.s.len, cq, u.s.bs⟩⟩) (HOO.out.keep fun g _ hl => alloc_far rfl hl) (own_keep HOY.out fun g _ hl => alloc_far rfl hl) hown3 hg3, (below_alloc (below_then HBW.out HBY.out) _).grown hg3 (by rw [World.size_alloc]; omega) (fun g hg => (HO.out.row.lt g hg).1)⟩
          rw [List.map_append, HSY.out, List.take_add_one, HU.out, List.map_append]
          rfl
        case measure => simp [intOf]; omega
      · have hke : k = n - d := by omega
        subst hke
        go_wp2_with fail
        go_ret
        exact ⟨vs, ak, ck, by rw [HUL.out]; rfl, by rw [hsay, List.take_of_length_le (by rw [HUL.out]; exact Nat.le_refl _)], by rw [HUL.out]; exact hO, hbw⟩
  · have hqi : (m : Int) < ((n - d : Nat) : Int) := by omega
    have hqq : (m : Int) ≤ ((n - d : Nat) : Int) := by omega
    have hqc : (m : Int) ≤ ((cap - d : Nat) : Int) := by omega
    go_enter Try.func23, Try.ntmps23
    go_wp2_with fail
    refine HL.out.mono ?_
    rintro e w1 ⟨rfl, hb1⟩
    obtain ⟨c0, c4⟩ := HCE.out _ hb1
    have HB1 := Lib.hid hb1
    clear hb1
    go_wp2_with fail
    go_quiet (fail)
    go_wp2_with fail
    rw [show decide (m = 0) = false from decide_eq_false (by omega), Bool.or_false]
    go_loopw [9, 59] (fun v j wr => ∃ (k : Nat) (vs : List En) (ak : Option Addr) (ck : Nat), k ≤ m ∧ j = .int .i64 k ∧ v = .slice ak k ck ∧ vs.map En.says = (us.take k).map En.says ∧ OwnE wr w.heap.size vs ak k ck ∧ Below w.heap.size w wr) (fun _ j _ => m - (intOf j).toNat)
    case atStart => exact ⟨0, [], none, 0, by omega, rfl, rfl, by simp, OwnE.nil _ _, below_drewN HB1.out _⟩
    case round =>
      obtain ⟨k, vs, ak, ck, hk, rfl, rfl, hsay, hO, hbw⟩ := hrel
      have hsz := hbw.size
      by_cases hlt : k < m
      · have huk : (es.drop d)[k]? = us[k]? := by rw [HUS.out, List.getElem?_take, if_pos (by omega)]
        obtain ⟨u, hu⟩ : ∃ u, us[k]? = some u := ⟨_, List.getElem?_eq_getElem (by rw [HUL.out]; exact hlt)⟩
        rw [hu] at huk
        have hmem : u ∈ es := List.mem_of_mem_drop (List.mem_of_getElem? huk)
        have hrow := ((RowN.of_own (H.out.below hbw).row).dropN (show d ≤ n by omega))
        rw [Nat.zero_add] at hrow
        obtain ⟨b', off', he, e0, e1, e2, e3⟩ := en_at hrow (by rw [List.length_drop, hlen]) k (by omega) u huk
        injection he with he
        injection he with he1 he2 _
        subst he1 he2
        have hown := (H.out.below hbw).own u hmem
        have hbx : Below wr.heap.size wr (wr.alloc (.cells #[.int .i64 u.ix, .int .i64 u.tm, .int .i64 u.kd, .slice u.s.a u.s.len u.s.cap] 41)) := below_alloc (Below.refl _ _) _
        have hcl := clone_any u.s.a u.s.len u.s.cap u.s.bs _ (hown.row.below hbx) (fun e => by have := hown.nocap e; have := hown.cap.1; omega) (HB.out u hmem)
        have hbx2 : ∀ w2, Below (wr.alloc (.cells #[.int .i64 u.ix, .int .i64 u.tm, .int .i64 u.kd, .slice u.s.a u.s.len u.s.cap] 41)).heap.size (wr.alloc (.cells #[.int .i64 u.ix, .int .i64 u.tm, .int .i64 u.kd, .slice u.s.a u.s.len u.s.cap] 41)) w2 → w2.heap[wr.heap.size]? = some (.cells #[.int .i64 u.ix, .int .i64 u.tm, .int .i64 u.kd, .slice u.s.a u.s.len u.s.cap] 41 (0, 0)) := fun w2 hb => (hb.block _ (by rw [World.size_alloc]; omega)).trans (heap_alloc_new wr _)
        have hkl : (k : Int) < ((m : Nat) : Int) := by omega
        have HCL := Lib.hid hcl
        have HBX := Lib.hid hbx
        have HBX2 := Lib.hid hbx2
        have HO := Lib.hid hO
        have HBW := Lib.hid hbw
        have HU := Lib.hid hu
        have HSY := Lib.hid hsay
        clear huk hmem hrow hown hbx hcl hbx2 hO hbw hu hsay
        go_wp2_with fail
        refine HCL.out.mono ?_
        rintro e w2 ⟨aq, cq, rfl, hown2, hb2⟩
        obtain ⟨⟨b0, b1, b2, b3⟩, y0, y1, y2, y3⟩ := four_cells (HBX2.out _ hb2)
        obtain ⟨Y, hY⟩ : ∃ Y, Y = w2.setCell ⟨wr.heap.size, 3, none⟩ (.slice aq u.s.len cq) := ⟨_, rfl⟩
        have hbY : Below wr.heap.size wr Y := hY ▸ below_set (below_then HBX.out hb2) _ (Nat.le_refl _)
        have hYb : Y.heap[wr.heap.size]? = some (.cells #[.int .i64 u.ix, .int .i64 u.tm, .int .i64 u.kd, .slice aq u.s.len cq] 41 (0, 0)) := hY ▸ set_block (i := 3) (HBX2.out _ hb2) _
        have hoY : Own8 Y w.heap.size aq u.s.len cq u.s.bs := by
          rw [hY]
          exact own_more (own_keep hown2 fun g hg hl => Below.heap_setCell w2 _ _ g (by have := (hown2.lt g hg).1; rw [World.size_alloc] at this; simp; omega)) (by rw [World.size_alloc]; omega)
        have hOY := HO.out.keep (w' := Y) fun g _ hl => hbY.block g hl
        have HBY := Lib.hid hbY
        have HOY := Lib.hid hoY
        have HOO := Lib.hid hOY
        have hzY := hbY.size
        clear hown2 hb2 hbY hoY hOY
        subst hY
        go_wp2_with (at_builtin; refine wpList_appendE rfl (.tmp 67) (.tmp 69) rfl w.heap.size ak k ck (vs.flatMap En.cells) rfl (own_keep HOO.out.row fun g _ hl => alloc_far rfl hl) (some ⟨w2.heap.size, 0, none⟩) 1 1 (En.cells ⟨u.ix, u.tm, u.kd, ⟨aq, u.s.len, cq, u.s.bs⟩⟩) rfl (RowN.newH _ _ _ 4 1 _ _ rfl rfl (by simp [World.setCell])) (fun h => by cases h) (cells_one4 _) (by omega) (by rw [World.size_alloc]; omega) (k + 1) rfl ?_; intro ao3 cap3 w3 hown3 hg3 hat3)
        go_roundw
        case rel =>
          refine ⟨k + 1, vs ++ [⟨u.ix, u.tm, u.kd, ⟨aq, u.s.len, cq, u.s.bs⟩⟩], ao3, cap3, by omega, by go_num, rfl, ?_, OwnE.snoc (l := ⟨u.ix, u.tm, u.kd, ⟨aq, u.s.len, cq, u.s.bs⟩⟩) (HOO.out.keep fun g _ hl => alloc_far rfl hl) (own_keep HOY.out fun g _ hl => alloc_far rfl hl) hown3 hg3, (below_alloc (below_then HBW.out HBY.out) _).grown hg3 (by rw [World.size_alloc]; omega) (fun g hg => (HO.out.row.lt g hg).1)⟩
          rw [List.map_append, HSY.out, List.take_add_one, HU.out, List.map_append]
          rfl
        case measure => simp [intOf]; omega
      · have hke : k = m := by omega
        subst hke
        go_wp2_with fail
        go_ret
        exact ⟨vs, ak, ck, by rw [HUL.out]; rfl, by rw [hsay, List.take_of_length_le (by rw [HUL.out]; exact Nat.le_refl _)], by rw [HUL.out]; exact hO, hbw⟩
  · have hqi : ¬ (q : Int) < ((n - d : Nat) : Int) := by omega
    have hqq : ((n - d : Nat) : Int) ≤ (q : Int) := by omega
    have hqc : ((n - d : Nat) : Int) ≤ ((cap - d : Nat) : Int) := by omega
    go_enter Try.func23, Try.ntmps23
    go_wp2_with fail
    refine HL.out.mono ?_
    rintro e w1 ⟨rfl, hb1⟩
    obtain ⟨c0, c4⟩ := HCE.out _ hb1
    have HB1 := Lib.hid hb1
    clear hb1
    go_wp2_with fail
    go_quiet (fail)
    go_wp2_with fail
    rw [show decide (q = 0) = false from decide_eq_false (by omega), Bool.or_false]
    go_loopw [9, 59] (fun v j wr => ∃ (k : Nat) (vs : List En) (ak : Option Addr) (ck : Nat), k ≤ (n - d) ∧ j = .int .i64 k ∧ v = .slice ak k ck ∧ vs.map En.says = (us.take k).map En.says ∧ OwnE wr w.heap.size vs ak k ck ∧ Below w.heap.size w wr) (fun _ j _ => (n - d) - (intOf j).toNat)
    case atStart => exact ⟨0, [], none, 0, by omega, rfl, rfl, by simp, OwnE.nil _ _, below_drewN HB1.out _⟩
    case round =>
      obtain ⟨k, vs, ak, ck, hk, rfl, rfl, hsay, hO, hbw⟩ := hrel
      have hsz := hbw.size
      by_cases hlt : k < (n - d)
      · have huk : (es.drop d)[k]? = us[k]? := by rw [HUS.out, List.getElem?_take, if_pos (by omega)]
        obtain ⟨u, hu⟩ : ∃ u, us[k]? = some u := ⟨_, List.getElem?_eq_getElem (by rw [HUL.out]; exact hlt)⟩
        rw [hu] at huk
        have hmem : u ∈ es := List.mem_of_mem_drop (List.mem_of_getElem? huk)
        have hrow := ((RowN.of_own (H.out.below hbw).row).dropN (show d ≤ n by omega))
        rw [Nat.zero_add] at hrow
        obtain ⟨b', off', he, e0, e1, e2, e3⟩ := en_at hrow (by rw [List.length_drop, hlen]) k (by omega) u huk
        injection he with he
        injection he with he1 he2 _
        subst he1 he2
        have hown := (H.out.below hbw).own u hmem
        have hbx : Below wr.heap.size wr (wr.alloc (.cells #[.int .i64 u.ix, .int .i64 u.tm, .int .i64 u.kd, .slice u.s.a u.s.len u.s.cap] 41)) := below_alloc (Below.refl _ _) _
        have hcl := clone_any u.s.a u.s.len u.s.cap u.s.bs _ (hown.row.below hbx) (fun e => by have := hown.nocap e; have := hown.cap.1; omega) (HB.out u hmem)
        have hbx2 : ∀ w2, Below (wr.alloc (.cells #[.int .i64 u.ix, .int .i64 u.tm, .int .i64 u.kd, .slice u.s.a u.s.len u.s.cap] 41)).heap.size (wr.alloc (.cells #[.int .i64 u.ix, .int .i64 u.tm, .int .i64 u.kd, .slice u.s.a u.s.len u.s.cap] 41)) w2 → w2.heap[wr.heap.size]? = some (.cells #[.int .i64 u.ix, .int .i64 u.tm, .int .i64 u.kd, .slice u.s.a u.s.len u.s.cap] 41 (0, 0)) := fun w2 hb => (hb.block _ (by rw [World.size_alloc]; omega)).trans (heap_alloc_new wr _)
        have hkl : (k : Int) < (((n - d) : Nat) : Int) := by omega
        have HCL := Lib.hid hcl
        have HBX := Lib.hid hbx
        have HBX2 := Lib.hid hbx2
        have HO := Lib.hid hO
        have HBW := Lib.hid hbw
        have HU := Lib.hid hu
        have HSY := Lib.hid hsay
        clear huk hmem hrow hown hbx hcl hbx2 hO hbw hu hsay
        go_wp2_with fail
        refine HCL.out.mono ?_
        rintro e w2 ⟨aq, cq, rfl, hown2, hb2⟩
        obtain ⟨⟨b0, b1, b2, b3⟩, y0, y1, y2, y3⟩ := four_cells (HBX2.out _ hb2)
        obtain ⟨Y, hY⟩ : ∃ Y, Y = w2.setCell ⟨wr.heap.size, 3, none⟩ (.slice aq u.s.len cq) := ⟨_, rfl⟩
        have hbY : Below wr.heap.size wr Y := hY ▸ below_set (below_then HBX.out hb2) _ (Nat.le_refl _)
        have hYb : Y.heap[wr.heap.size]? = some (.cells #[.int .i64 u.ix, .int .i64 u.tm, .int .i64 u.kd, .slice aq u.s.len cq] 41 (0, 0)) := hY ▸ set_block (i := 3) (HBX2.out _ hb2) _
        have hoY : Own8 Y w.heap.size aq u.s.len cq u.s.bs := by
          rw [hY]
          exact own_more (own_keep hown2 fun g hg hl => Below.heap_setCell w2 _ _ g (by have := (hown2.lt g hg).1; rw [World.size_alloc] at this; simp; omega)) (by rw [World.size_alloc]; omega)
        have hOY := HO.out.keep (w' := Y) fun g _ hl => hbY.block g hl
        have HBY := Lib.hid hbY
        have HOY := Lib.hid hoY
        have HOO := Lib.hid hOY
        have hzY := hbY.size
        clear hown2 hb2 hbY hoY hOY
        subst hY
        go_wp2_with (at_builtin; refine wpList_appendE rfl (.tmp 67) (.tmp 69) rfl w.heap.size ak k ck (vs.flatMap En.cells) rfl (own_keep HOO.out.row fun g _ hl => alloc_far rfl hl) (some ⟨w2.heap.size, 0, none⟩) 1 1 (En.cells ⟨u.ix, u.tm, u.kd, ⟨aq, u.s.len, cq, u.s.bs⟩⟩) rfl (RowN.newH _ _ _ 4 1 _ _ rfl rfl (by simp [World.setCell])) (fun h => by cases h) (cells_one4 _) (by omega) (by rw [World.size_alloc]; omega) (k + 1) rfl ?_; intro ao3 cap3 w3 hown3 hg3 hat3)
        go_roundw
        case rel =>
          refine ⟨k + 1, vs ++ [⟨u.ix, u.tm, u.kd, ⟨aq, u.s.len, cq, u.s.bs⟩⟩], ao3, cap3, by omega, by go_num, rfl, ?_, OwnE.snoc (l := ⟨u.ix, u.tm, u.kd, ⟨aq, u.s.len, cq, u.s.bs⟩⟩) (HOO.out.keep fun g _ hl => alloc_far rfl hl) (own_keep HOY.out fun g _ hl => alloc_far rfl hl) hown3 hg3, (below_alloc (below_then HBW.out HBY.out) _).grown hg3 (by rw [World.size_alloc]; omega) (fun g hg => (HO.out.row.lt g hg).1)⟩
          rw [List.map_append, HSY.out, List.take_add_one, HU.out, List.map_append]
          rfl
        case measure => simp [intOf]; omega
      · have hke : k = n - d := by omega
        subst hke
        go_wp2_with fail
        go_ret
        exact ⟨vs, ak, ck, by rw [HUL.out]; rfl, by rw [hsay, List.take_of_length_le (by rw [HUL.out]; exact Nat.le_refl _)], by rw [HUL.out]; exact hO, hbw⟩
theorem and_mask (x : Int) (m : Nat) (hm : m < 4611686018427387904) : 0 ≤ bits .and .i64 x m ∧ bits .and .i64 x m ≤ m := by
  have h1 : ((BitVec.ofInt IntKind.i64.bits x) &&& (BitVec.ofInt IntKind.i64.bits (m : Int))).toNat ≤ m := by
    rw [BitVec.toNat_and]
    refine Nat.le_trans Nat.and_le_right ?_
    rw [BitVec.toNat_ofInt]
    have h64 : (2 ^ IntKind.i64.bits : Nat) = 18446744073709551616 := by decide
    rw [h64]
    omega
  unfold bits
  simp only
  rw [IntKind.wrap_i64] <;> omega
theorem LogAt.stepBelow {w w' : World} {base N : Nat} {ix tm : Int} {c : Cf} {es : List En} {ae ae' : Option Addr} {n cap : Nat} (h : LogAt w base N ix tm c es ae n cap) (hs : NStep w w' N ae ae') (hB : base ≤ w.heap.size) : Below base w w' :=
  ⟨hs.os, hs.tape, hs.output, hs.size, fun k hk => hs.block k (by omega) (by have := h.lo; omega) (fun e => by rw [own_addr ae 0 0 n cap] at e; have := (h.row.lt k e).1; omega)⟩
theorem Sound.append {ix tm : Int} {es us vs : List En} (h : Sound ix tm es) (h0 : appendOf (lastOf ix tm es).1 (lastOf ix tm es).2 us = 0) (hs : vs.map En.says = us.map En.says) : Sound ix tm (es ++ vs) :=
  ⟨h.rx, h.rt, fun k e he => by
    by_cases hk : k < es.length
    · rw [List.getElem?_append_left hk] at he
      exact h.idx k e he
    · rw [List.getElem?_append_right (by omega)] at he
      obtain ⟨u, hu, hsay⟩ := says_at hs _ e he
      have := (appendOf_idx us _ _ h0 _ u hu).1
      rw [h.last] at this
      have hx : e.ix = u.ix := congrArg Prod.fst hsay
      omega⟩
/-- the blocks that a log has -/
def LogOn (N : Nat) (c : Cf) (es : List En) (ae : Option Addr) (g : Nat) : Prop :=
  g = N ∨ Value.ownBlock (.slice c.v.a c.v.len c.v.cap) = some g ∨ Value.ownBlock (.slice c.l.a c.l.len c.l.cap) = some g ∨ Value.ownBlock (.slice ae 0 0) = some g ∨ ∃ e ∈ es, Value.ownBlock (.slice e.s.a e.s.len e.s.cap) = some g
theorem LogAt.on {w : World} {base N : Nat} {ix tm : Int} {c : Cf} {es : List En} {ae : Option Addr} {n cap g : Nat} (h : LogAt w base N ix tm c es ae n cap) (hg : LogOn N c es ae g) : base ≤ g ∧ g < w.heap.size := by
  rcases hg with rfl | hg | hg | hg | ⟨e, he, hg⟩
  · exact ⟨h.lo, lt_of_block h.cell⟩
  · exact h.vo.lt g hg
  · exact h.le.lt g hg
  · exact h.row.lt g ((own_addr ae n cap 0 0).trans hg)
  · exact (h.own e he).lt g hg
theorem LogAt.keepOn {w w' : World} {base N : Nat} {ix tm : Int} {c : Cf} {es : List En} {ae : Option Addr} {n cap : Nat} (h : LogAt w base N ix tm c es ae n cap) (hk : ∀ g, LogOn N c es ae g → g < w.heap.size → w'.heap[g]? = w.heap[g]?) : LogAt w' base N ix tm c es ae n cap :=
  ⟨h.lo, (hk N (.inl rfl) (lt_of_block h.cell)).trans h.cell, own_keep h.vo fun g hg hl => hk g (.inr (.inl hg)) hl, own_keep h.le fun g hg hl => hk g (.inr (.inr (.inl hg))) hl, h.len,
    own_keep h.row fun g hg hl => hk g (.inr (.inr (.inr (.inl ((own_addr ae 0 0 n cap).trans hg))))) hl, fun v hv => own_keep (h.own v hv) fun g hg hl => hk g (.inr (.inr (.inr (.inr ⟨v, hv, hg⟩)))) hl⟩
/-- a log lies off another one's block and row -/
def LogOff (N : Nat) (c : Cf) (es : List En) (ae : Option Addr) (N' : Nat) (ae' : Option Addr) : Prop := ∀ g, LogOn N c es ae g → Off N' ae' g
theorem LogAt.beside {w w' : World} {base N N' : Nat} {ix tm : Int} {c : Cf} {es : List En} {ae ao ao' : Option Addr} {n cap : Nat} (h : LogAt w base N ix tm c es ae n cap) (hs : NStep w w' N' ao ao') (ha : LogOff N c es ae N' ao) : LogAt w' base N ix tm c es ae n cap :=
  h.keepOn fun g hg hl => hs.block g hl (ha g hg).1 (ha g hg).2
theorem LogOn.append {w w' : World} {N : Nat} {c : Cf} {es vs : List En} {ae ae' : Option Addr} {g : Nat} (hs : NStep w w' N ae ae') (hn : NewE w.heap.size vs) (hg : LogOn N c (es ++ vs) ae' g) : LogOn N c es ae g ∨ w.heap.size ≤ g := by
  rcases hg with rfl | hg | hg | hg | ⟨e, he, hg⟩
  · exact .inl (.inl rfl)
  · exact .inl (.inr (.inl hg))
  · exact .inl (.inr (.inr (.inl hg)))
  · rcases hs.row g hg with h | h
    · exact .inl (.inr (.inr (.inr (.inl h))))
    · exact .inr h
  · rcases List.mem_append.1 he with he | he
    · exact .inl (.inr (.inr (.inr (.inr ⟨e, he, hg⟩))))
    · exact .inr (hn e he g hg)
/-- what a step of a log adds lies off another one -/
theorem LogOff.step {w w' : World} {base' N N' : Nat} {ix tm : Int} {c c' : Cf} {es es' vs : List En} {ae ae' ao : Option Addr} {n' cap' : Nat} (ha : LogOff N c es ae N' ao) (hl : LogAt w base' N' ix tm c' es' ao n' cap') (hs : NStep w w' N ae ae') (hn : NewE w.heap.size vs) : LogOff N c (es ++ vs) ae' N' ao := fun g hg => by
  rcases LogOn.append hs hn hg with h | h
  · exact ha g h
  · exact ⟨fun e => by have := lt_of_block hl.cell; omega, fun e => by have := (hl.on (.inr (.inr (.inr (.inl e))))).2; omega⟩
theorem LogOff.other {w w' : World} {base' N N' : Nat} {ix tm : Int} {c' : Cf} {es' : List En} {ae ae' ao : Option Addr} {n' cap' : Nat} (ha : LogOff N' c' es' ao N ae) (hl : LogAt w base' N' ix tm c' es' ao n' cap') (hs : NStep w w' N ae ae') : LogOff N' c' es' ao N ae' := fun g hg =>
  ⟨(ha g hg).1, fun e => by
    rcases hs.row g e with h | h
    · exact (ha g hg).2 h
    · have := (hl.on hg).2; omega⟩
theorem LogOff.first {w : World} {base' N N' : Nat} {ix' tm' : Int} {c c' : Cf} {n' cap' : Nat} (h' : LogAt w base' N' ix' tm' c' [] none n' cap') (hlt : ∀ g, LogOn N c [] none g → g < base') : LogOff N c [] none N' none ∧ LogOff N' c' [] none N none := by
  refine ⟨fun g hg => ⟨?_, fun e => by cases e⟩, fun g hg => ⟨?_, fun e => by cases e⟩⟩
  · have := hlt g hg
    have := h'.lo
    omega
  · have := hlt N (.inl rfl)
    have := (h'.on hg).1
    omega
def AllR (es : List En) : Prop := ∀ e ∈ es, rightE e.ix e.tm e.kd e.s.bs = true
theorem AllR.append {es us vs : List En} {i t : Int} (h : AllR es) (h0 : appendOf i t us = 0) (hs : vs.map En.says = us.map En.says) : AllR (es ++ vs) := fun e he => by
  rcases List.mem_append.1 he with he | he
  · exact h e he
  · obtain ⟨k, hk⟩ := List.getElem?_of_mem he
    obtain ⟨u, hu, hsay⟩ := says_at hs k e hk
    have := (appendOf_idx us i t h0 k u hu).2
    simp only [En.says, Prod.mk.injEq] at hsay
    rw [hsay.1, hsay.2.1, hsay.2.2.1, hsay.2.2.2]
    exact this
theorem Sound.few {ix tm : Int} {es : List En} (h : Sound ix tm es) (hr : AllR es) : es.length ≤ 1099511627776 := by
  cases hl : es.length with
  | zero => omega
  | succ m =>
    obtain ⟨e, he⟩ : ∃ e, es[m]? = some e := ⟨_, List.getElem?_eq_getElem (by omega)⟩
    have h1 := h.idx m e he
    have h2 := (rightE_iff.1 (hr e (List.mem_of_getElem? he))).2.2.1
    have h3 := h.rx
    omega
theorem AllR.small {w : World} {base N : Nat} {ix tm : Int} {c : Cf} {es : List En} {ae : Option Addr} {n cap : Nat} (h : AllR es) (hl : LogAt w base N ix tm c es ae n cap) : ∀ e ∈ es, e.s.len ≤ 140737488355328 := fun e he => by
  have h1 := (rightE_iff.1 (h e he)).2.2.2.2.2.2.2
  have h2 := (hl.own e he).row.1
  omega
theorem term_in {ix tm : Int} {es : List En} (tz : Int) (h0 : ix ≤ tz) (h1 : tz ≤ ix + es.length) : (termOf ix tm es tz).2 = true := by
  unfold termOf
  rw [if_neg (by omega)]
  split <;> rfl
theorem find_congr {α : Type} {p q : α → Bool} {l : List α} (h : ∀ x ∈ l, p x = q x) : l.find? p = l.find? q := by
  induction l with
  | nil => rfl
  | cons x r ih =>
    rw [List.find?_cons, List.find?_cons, h x (List.mem_cons_self ..), ih fun y hy => h y (List.mem_cons_of_mem _ hy)]
theorem says_len {es fs : List En} (h : es.map En.says = fs.map En.says) : es.length = fs.length := by
  have := congrArg List.length h
  rwa [List.length_map, List.length_map] at this
theorem last_says {es fs : List En} (h : es.map En.says = fs.map En.says) (ix tm : Int) : lastOf ix tm es = lastOf ix tm fs := by
  have h1 : es.getLast?.map En.says = fs.getLast?.map En.says := by rw [← List.getLast?_map, ← List.getLast?_map, h]
  unfold lastOf
  cases he : es.getLast? <;> cases hf : fs.getLast? <;> rw [he, hf] at h1
  · cases h1
  · cases h1
  · injection h1 with h1
    simp only [En.says, Prod.mk.injEq] at h1
    simp only [h1.1, h1.2.1]
theorem term_says {es fs : List En} (h : es.map En.says = fs.map En.says) (ix tm i : Int) : termOf ix tm es i = termOf ix tm fs i := by
  have hg : ∀ k : Nat, es[k]?.map En.tm = fs[k]?.map En.tm := fun k => by
    have h1 : es[k]?.map En.says = fs[k]?.map En.says := by rw [← List.getElem?_map, ← List.getElem?_map, h]
    have h2 : ∀ l : List En, l[k]?.map En.tm = (l[k]?.map En.says).map (fun p => p.2.1) := fun l => by rw [Option.map_map]; rfl
    rw [h2, h2, h1]
  unfold termOf
  rw [says_len h, hg]
theorem conf_says {es fs : List En} (h : es.map En.says = fs.map En.says) (ix : Int) (cf : List Int × List Int) (i : Int) : confAtOf ix cf es i = confAtOf ix cf fs i := by
  have hf : ∀ l : List En, (l.reverse.find? (gives i)).map En.says = (l.map En.says).reverse.find? (fun p => decide (p.2.2.1 = 2) && decide (p.1 ≤ i)) := fun l => by
    rw [← List.map_reverse, List.find?_map]
    rfl
  have h1 : (es.reverse.find? (gives i)).map En.says = (fs.reverse.find? (gives i)).map En.says := by rw [hf, hf, h]
  unfold confAtOf
  cases he : es.reverse.find? (gives i) <;> cases hf : fs.reverse.find? (gives i) <;> rw [he, hf] at h1
  · cases h1
  · cases h1
  · injection h1 with h1
    simp only [En.says, Prod.mk.injEq] at h1
    simp only [h1.1, h1.2.2.2]
theorem entries_says {es fs : List En} (h : es.map En.says = fs.map En.says) (ix fr most : Int) : (entriesOf ix es fr most).map En.says = (entriesOf ix fs fr most).map En.says := by
  have hn : (es = []) ↔ (fs = []) := by
    rw [← List.length_eq_zero_iff, says_len h, List.length_eq_zero_iff]
  unfold entriesOf
  simp only
  rw [says_len h]
  by_cases hc : fs = [] ∨ ix + fs.length < max fr (ix + 1) ∨ most ≤ 0
  · rw [if_pos hc, if_pos (by rw [hn]; exact hc)]
  · rw [if_neg hc, if_neg (by rw [hn]; exact hc), List.map_take, List.map_drop, h, List.map_take, List.map_drop]
/-- what is loaded is small -/
theorem readNs_len : ∀ (k : Nat) (bs : List UInt8) (acc v : List Int) (r : List UInt8), readNs k bs acc = some (v, r) → v.length = acc.length + k
  | 0, bs, acc, v, r, h => by
    rw [readNs] at h
    injection h with h
    injection h with h1 _
    rw [h1]
    rfl
  | k + 1, bs, acc, v, r, h => by
    rw [readNs] at h
    split at h
    · cases h
    · have := readNs_len k _ _ v r h
      rw [List.length_append] at this
      simp at this
      omega
theorem readGrp_len {bs r : List UInt8} {v : List Int} (h : readGrp bs = some (v, r)) : v.length ≤ 7 := by
  unfold readGrp at h
  split at h
  · cases h
  · rename_i n r' hg
    have h1 := getCount_range hg
    have := readNs_len _ _ _ _ _ h
    simp at this
    omega
theorem readFin_is {v l v' l' : List Int} {r r' : List UInt8} (h : readFin v l r = some ((v', l'), r')) : v' = v ∧ l' = l := by
  unfold readFin at h
  split at h
  · injection h with h
    injection h with h1 _
    injection h1 with h1 h2
    exact ⟨h1.symm, h2.symm⟩
  · cases h
theorem loadOf_len {bs : List UInt8} {c : List Int × List Int} (h : loadOf bs = some c) : c.1.length ≤ 7 ∧ c.2.length ≤ 7 := by
  unfold loadOf readConf at h
  cases hg : readGrp bs with
  | none => rw [readStage_none (by decide) hg] at h; cases h
  | some p =>
    obtain ⟨v, r⟩ := p
    rw [readStage_zero (l2 := []) hg] at h
    cases hg2 : readGrp r with
    | none => rw [readStage_none (by decide) hg2] at h; cases h
    | some q =>
      obtain ⟨l, r2⟩ := q
      rw [readStage_one hg2] at h
      simp only [readStage] at h
      split at h
      · rename_i c' he
        obtain ⟨v', l'⟩ := c'
        injection h with h
        subst h
        obtain ⟨h1, h2⟩ := readFin_is he
        subst h1 h2
        exact ⟨readGrp_len hg, readGrp_len hg2⟩
      · cases h
theorem conf_small (ix : Int) (cf : List Int × List Int) (es : List En) (i : Int) (n : Nat) (h : cf.1.length ≤ n ∧ cf.2.length ≤ n) (hn : 7 ≤ n) : (confAtOf ix cf es i).1.1.length ≤ n ∧ (confAtOf ix cf es i).1.2.length ≤ n := by
  unfold confAtOf
  split
  · exact h
  · rename_i e _
    cases hl : loadOf e.s.bs with
    | none => simp
    | some c =>
      have := loadOf_len hl
      simp only [Option.getD_some]
      omega
theorem Sound.says {ix tm : Int} {es fs : List En} (h : Sound ix tm es) (hs : fs.map En.says = es.map En.says) : Sound ix tm fs :=
  ⟨h.rx, h.rt, fun k e he => by
    obtain ⟨u, hu, hsay⟩ := says_at hs k e he
    have := h.idx k u hu
    have hx : e.ix = u.ix := congrArg Prod.fst hsay
    omega⟩
theorem AllR.says {es fs : List En} (h : AllR es) (hs : fs.map En.says = es.map En.says) : AllR fs := fun e he => by
  obtain ⟨k, hk⟩ := List.getElem?_of_mem he
  obtain ⟨u, hu, hsay⟩ := says_at hs k e hk
  have := h u (List.mem_of_getElem? hu)
  simp only [En.says, Prod.mk.injEq] at hsay
  rw [hsay.1, hsay.2.1, hsay.2.2.1, hsay.2.2.2]
  exact this
theorem slP_low {w : World} {B : Nat} {s : Sl} {N : Nat} {ix tm : Int} {c : Cf} {es : List En} {ae : Option Addr} {n cap : Nat} {w' : World} (h : Sl.ok w s) (hl : LogAt w' B N ix tm c es ae n cap) (hB : w.heap.size ≤ B) : SlP (Off N ae) s := fun b off e hn => by
  have hb : b < w.heap.size := by
    obtain ⟨b', off', e', hc⟩ := h.1.2 0 hn
    rw [e] at e'
    injection e' with e'
    injection e' with e1 _ _
    subst e1
    exact World.block_lt_of_cell? w _ hc
  exact ⟨by have := hl.lo; omega, fun e => by have := (hl.on (.inr (.inr (.inr (.inl e))))).1; omega⟩
theorem OwnE.cap {w : World} {base : Nat} {ls : List En} {ao : Option Addr} {n cap : Nat} (h : OwnE w base ls ao n cap) : n ≤ maxLen := by
  rcases h.row.2 with ⟨_, h0⟩ | ⟨g, cp, cur, hv, _, hg, h1, h2, _⟩
  · omega
  · exact Nat.le_trans h1 h2
/-- terms from t on never fall -/
def Rise : Int → List En → Prop
  | _, [] => True
  | t, e :: r => t ≤ e.tm ∧ Rise e.tm r
/-- the term behind k entries -/
def tAt (tm : Int) (es : List En) : Nat → Int
  | 0 => tm
  | k + 1 => (es[k]?.map En.tm).getD 0
theorem tAt_cons (tm : Int) (e : En) (r : List En) (k : Nat) : tAt tm (e :: r) (k + 1) = tAt e.tm r k := by
  cases k with
  | zero => rfl
  | succ k => rfl
theorem tAt_succ {tm : Int} {es : List En} {k : Nat} {e : En} (h : es[k]? = some e) : tAt tm es (k + 1) = e.tm := by
  rw [tAt, h]
  rfl
theorem Rise.at : ∀ {es : List En} {tm : Int} {k : Nat} {e : En}, Rise tm es → es[k]? = some e → tAt tm es k ≤ e.tm
  | [], _, _, _, _, h => by simp at h
  | a :: r, tm, 0, e, hr, h => by
    simp only [List.getElem?_cons_zero, Option.some.injEq] at h
    subst h
    exact hr.1
  | a :: r, tm, k + 1, e, hr, h => by
    rw [List.getElem?_cons_succ] at h
    rw [tAt_cons]
    exact Rise.at hr.2 h
theorem Rise.take : ∀ {es : List En} {tm : Int} (k : Nat), Rise tm es → Rise tm (es.take k)
  | [], _, k, _ => by rw [List.take_nil]; trivial
  | a :: r, tm, 0, _ => trivial
  | a :: r, tm, k + 1, h => by
    rw [List.take_succ_cons]
    exact ⟨h.1, Rise.take k h.2⟩
theorem Rise.drop : ∀ {es : List En} {tm : Int} (k : Nat), k ≤ es.length → Rise tm es → Rise (tAt tm es k) (es.drop k)
  | es, tm, 0, _, h => h
  | [], _, k + 1, hk, _ => by simp at hk
  | a :: r, tm, k + 1, hk, h => by
    rw [tAt_cons, List.drop_succ_cons]
    exact Rise.drop k (by simp at hk; exact hk) h.2
theorem Rise.append : ∀ {es us : List En} {tm : Int}, Rise tm es → Rise (tAt tm es es.length) us → Rise tm (es ++ us)
  | [], us, tm, _, h => h
  | a :: r, us, tm, h, h2 => by
    rw [List.length_cons, tAt_cons] at h2
    exact ⟨h.1, Rise.append h.2 h2⟩
theorem last_tm (ix tm : Int) (es : List En) : (lastOf ix tm es).2 = tAt tm es es.length := by
  unfold lastOf
  cases hl : es.length with
  | zero =>
    rw [List.length_eq_zero_iff] at hl
    subst hl
    rfl
  | succ m =>
    rw [List.getLast?_eq_getElem?, hl]
    obtain ⟨e, he⟩ : ∃ e, es[m]? = some e := ⟨_, List.getElem?_eq_getElem (by omega)⟩
    rw [show m + 1 - 1 = m from rfl, he, tAt_succ he]
theorem appendOf_rise : ∀ (us : List En) (i t : Int), appendOf i t us = 0 → Rise t us
  | [], _, _, _ => trivial
  | e :: r, i, t, h0 => by
    rw [appendOf] at h0
    split at h0
    · omega
    · split at h0
      · omega
      · split at h0
        · omega
        · exact ⟨by omega, appendOf_rise r _ _ h0⟩
theorem Rise.says : ∀ {es fs : List En} {tm : Int}, Rise tm es → fs.map En.says = es.map En.says → Rise tm fs
  | [], fs, tm, _, h => by
    rw [List.map_nil, List.map_eq_nil_iff] at h
    subst h
    trivial
  | e :: r, [], tm, _, h => by simp at h
  | e :: r, f :: s, tm, hr, h => by
    rw [says_cons] at h
    exact ⟨by rw [h.1.2.1]; exact hr.1, by rw [h.1.2.1]; exact Rise.says hr.2 h.2⟩
theorem Rise.more {ix tm : Int} {es us vs : List En} (h : Rise tm es) (h0 : appendOf (lastOf ix tm es).1 (lastOf ix tm es).2 us = 0) (hs : vs.map En.says = us.map En.says) : Rise tm (es ++ vs) :=
  h.append ((last_tm ix tm es ▸ appendOf_rise us _ _ h0).says hs)
theorem term_tAt {ix tm : Int} {es : List En} (tz : Int) (h0 : ix ≤ tz) (h1 : tz ≤ ix + es.length) : (termOf ix tm es tz).1 = tAt tm es (tz - ix).toNat := by
  unfold termOf
  rw [if_neg (by omega)]
  by_cases h : tz = ix
  · subst h
    rw [if_pos rfl, show (tz - tz).toNat = 0 from by omega]
    rfl
  · rw [if_neg h, show (tz - ix).toNat = (tz - ix - 1).toNat + 1 from by omega]
    rfl
theorem has_at {ix tm : Int} {es : List En} (hs : Sound ix tm es) {k : Nat} {e : En} (he : es[k]? = some e) : hasOf ix tm es e.ix e.tm = true := by
  have hi := hs.idx k e he
  have hk : k < es.length := (List.getElem?_eq_some_iff.1 he).1
  unfold hasOf
  rw [term_in e.ix (by omega) (by omega), term_tAt e.ix (by omega) (by omega), show (e.ix - ix).toNat = k + 1 from by omega, tAt_succ he]
  simp
theorem Sound.take {ix tm : Int} {es : List En} (h : Sound ix tm es) (k : Nat) : Sound ix tm (es.take k) :=
  ⟨h.rx, h.rt, fun j e he => by
    rw [List.getElem?_take] at he
    split at he
    · exact h.idx j e he
    · cases he⟩
theorem AllR.take {es : List En} (h : AllR es) (k : Nat) : AllR (es.take k) := fun e he => h e (List.mem_of_mem_take he)
theorem entries_all {ix : Int} {es : List En} (hx : 0 ≤ ix) (most : Nat) (hm : 0 < most) : entriesOf ix es 0 most = es.take most := by
  unfold entriesOf
  simp only
  rw [show max 0 (ix + 1) = ix + 1 from by omega, show ix + 1 - ix - 1 = 0 from by omega]
  by_cases hc : es = []
  · subst hc
    simp
  · have : 0 < es.length := List.length_pos_iff.2 hc
    rw [if_neg (by intro h; rcases h with h | h | h; exact hc h; all_goals omega)]
    simp
end Go.Proofs.Ytcejamblndilbaa
