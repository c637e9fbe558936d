/- confAt. -/
import Derived.Test.YtpaommkjafdghaaBack
namespace Go.Proofs.Ytpaommkjafdghaa
open Go.RowKit Go.Shelf

attribute [local go_sem] Oper.semAt_some

theorem backward_any (a : Option Addr) (len cap : Nat) (w : World) :
    Calls Try.prog 47 #[.slice a len cap] w fun e w' => e = .returned (.func (.func 55) #[] #[.pointer (some ⟨w.heap.size, 0, none⟩)]) ∧ w' = w.alloc (.cells #[.slice a len cap] 22) := by
  have hmf : ∀ (fn : Fn) (first cap : Array Value) (w : World), (Instr.makeFunc fn first cap).run Try.prog w = .ok (.func fn first cap) w := fun _ _ _ _ => rfl
  go_enter Try.func47, Try.ntmps47
  go_wp2_with fail
  go_ret
  exact ⟨rfl, rfl⟩

theorem backward_stops (F : Fence) (n : Nat) (hf : F.fn 55) (hro : F.round = none) (hn : 1 ≤ n) (Bs n₀ : Nat) (ae : Option Addr) (len cap : Nat) (es : List En) (hlen : es.length = len) (hbig : len ≤ 2000000000000) (w : World)
    (hb : ∀ b off, ae = some ⟨b, off, none⟩ → 0 < len → b < n₀) (hBs : Bs < n₀) (hn₀ : n₀ ≤ w.heap.size) (hBc : w.cell? ⟨Bs, 0, none⟩ = some (.slice ae len cap)) (hrow : RowN w ae 4 len (es.flatMap En.cells)) :
    SeqStopsK F n Try.prog 55 #[.pointer (some ⟨Bs, 0, none⟩)] (encB es) (Below n₀) (fun ys => entsB ys = es.reverse) (fun pre => ∃ k, k ≤ len ∧ entsB pre = es.reverse.take k) len w := fun l J Jx W hW _ _ hY h0 =>
  back1_in F n hf hro hn l Bs n₀ ae len cap es hlen hbig hb hBs J Jx hY W ((hW.cell (p := ⟨Bs, 0, none⟩) (by simp only; omega)).trans hBc) (hrow.below hW) h0

theorem lt_of_block' {w : World} {g : Nat} {o : Obj} (h : w.heap[g]? = some o) : g < w.heap.size := (Array.getElem?_eq_some_iff.1 h).1
theorem heap_kept {A B : World} {row : Option Nat} {B0 g : Nat} {cs : Array Value} {T : TypeId} {fr : Nat × Nat} (h : A.heap[g]? = some (.cells cs T fr)) (hg : A.grownBy B row) (hr : ∀ r, row = some r → B0 ≤ r ∧ ∃ o : Obj, A.heap[r]? = some o ∧ o.isCells = false) : B.heap[g]? = some (.cells cs T fr) :=
  (hg.block g (lt_of_block h) (fun e => by
    obtain ⟨_, o, ho, hc⟩ := hr g e.symm
    rw [h] at ho
    injection ho with ho
    subst ho
    cases hc)).trans h
theorem ownZ_kept {A B : World} {row : Option Nat} {B0 base : Nat} {s : Is} (h : OwnZ A base s) (hg : A.grownBy B row) (hr : ∀ r, row = some r → B0 ≤ r ∧ ∃ o : Obj, A.heap[r]? = some o ∧ o.isCells = false) : OwnZ B base s := by
  refine own_keep h fun g hgg hl => ?_
  rcases h.2 with ⟨h1, h2⟩ | ⟨g1, cp, cur, h1, _, hc, _⟩
  · rw [h1] at hgg
    cases hgg
  · rw [h1] at hgg
    injection hgg with hgg
    simp only at hgg
    subst hgg
    exact (heap_kept hc hg hr).trans hc.symm

theorem keepsFrom_touch {S : List Nat} {B : Nat} {W W' : World} (ht : Touch S W W') (hS : ∀ k ∈ S, k < B) : KeepsFrom B W W' :=
  ⟨ht.size, fun k o hB hk _ => (ht.block k (Array.getElem?_eq_some_iff.1 hk).1 (fun hm => by have := hS k hm; omega)).trans hk⟩

theorem results_cells2 {fn : Func} {p r : Tmp} {ty ty' : TypeId} (h : fn.results = #[.cell p ty, .cell r ty']) {tmps : Array Value} {P : Program} {w : World} {a b : Addr} {v u : Value} (ha : tmps.getD p undef = .pointer (some a)) (hl : (loadVar ty a).run P w = .ok v w) (hb : tmps.getD r undef = .pointer (some b)) (hm : (loadVar ty' b).run P w = .ok u w) :
    (results fn tmps).run P w = .ok (.tuple #[v, u]) w := by
  have h1 : (asAddr (tmps.getD p undef)).run P w = .ok a w := by rw [ha]; rfl
  have h2 : (asAddr (tmps.getD r undef)).run P w = .ok b w := by rw [hb]; rfl
  have e : (results fn tmps).run P w = ((asAddr (tmps.getD p undef)).run P w).andThen fun a w₁ => ((loadVar ty a).run P w₁).andThen fun v w₂ => ((asAddr (tmps.getD r undef)).run P w₂).andThen fun b w₃ => ((loadVar ty' b).run P w₃).andThen fun u w₄ => .ok (.tuple #[v, u]) w₄ := by
    simp only [results, h]
    simp [Sem.run_bind, Result.andThen]
  rw [e, h1]
  simp only [Result.andThen_ok, hl, h2, hm]
theorem load_i64 {w : World} {B : Nat} {x : Int} (h : w.heap[B]? = some (.cells #[.int .i64 x] 2 (0, 0))) : (loadVar 2 ⟨B, 0, none⟩).run Try.prog w = .ok (.int .i64 x) w := by
  have hc := cell_of_one h
  simp [loadVar, go_sem, hc]

/-- does an entry give a configuration, at an index? -/
def gives (i : Int) (e : En) : Bool := decide (e.kd = 2) && decide (e.ix ≤ i)
/-- the configuration at an index, and its entry's index -/
def confAtOf (ix : Int) (cf : List Int × List Int) (es : List En) (i : Int) : (List Int × List Int) × Int := match es.reverse.find? (gives i) with
  | none => (cf, ix)
  | some e => ((loadOf e.s.bs).getD ([], []), e.ix)

/-- between two rounds -/
def CatI (w : World) (i : Int) (es : List En) (pre : List (BackE es)) (W : World) : Prop :=
  (W.heap[w.heap.size]? = some (.cells #[.int .i64 i] 2 (0, 0)) ∧ W.heap[w.heap.size + 1]? = some (.cells #[.slice none 0 0, .slice none 0 0] 27 (0, 0)) ∧ W.heap[w.heap.size + 2]? = some (.cells #[.int .i64 0] 2 (0, 0))) ∧ Below w.heap.size w W ∧ w.heap.size + 4 ≤ W.heap.size ∧ ∀ e ∈ entsB pre, gives i e = false
/-- a round has found it -/
def CatX (w : World) (i : Int) (es : List En) (B : Nat) (c : Code) (pre : List (BackE es)) (W : World) : Prop :=
  c = .ret ∧ ∃ ini last, entsB pre = ini ++ [last] ∧ (∀ e ∈ ini, gives i e = false) ∧ gives i last = true ∧ Below w.heap.size w W ∧ W.heap[w.heap.size + 2]? = some (.cells #[.int .i64 last.ix] 2 (0, 0)) ∧
    ∃ c' : Cf, c'.says = (loadOf last.s.bs).getD ([], []) ∧ W.heap[w.heap.size + 1]? = some (.cells #[.slice c'.v.a c'.v.len c'.v.cap, .slice c'.l.a c'.l.len c'.l.cap] 27 (0, 0)) ∧ OwnZ W B c'.v ∧ OwnZ W B c'.l

def catBox (w : World) (i : Int) : World := (((w.alloc (.cells #[.int .i64 i] 2)).alloc (.cells #[.slice none 0 0, .slice none 0 0] 27)).alloc (.cells #[.int .i64 0] 2))

set_option maxRecDepth 100000 in
set_option maxHeartbeats 6400000 in
theorem confAt_any (base N : Nat) (ix tm : Int) (c : Cf) (es : List En) (ae : Option Addr) (n cap : Nat) (i : Int) (w : World) (h : LogAt w base N ix tm c es ae n cap) (hn : n ≤ 2000000000000) (hcn : c.v.len ≤ 1000000000000 ∧ c.l.len ≤ 1000000000000) :
    Calls Try.prog 35 #[.pointer (some ⟨N, 0, none⟩), .int .i64 i] w fun e w' => ∃ v, e = .returned (.tuple #[v, .int .i64 (confAtOf ix c.says es i).2]) ∧ RetConf w (confAtOf ix c.says es i).1 (.returned v) w' := by
  obtain ⟨X, hX⟩ : ∃ X, X = catBox w i := ⟨_, rfl⟩
  have hXb : Below w.heap.size w X := hX ▸ below_alloc (below_alloc (below_alloc (Below.refl _ _) _) _) _
  have hXs : X.heap.size = w.heap.size + 3 := by rw [hX]; unfold catBox; simp
  have hXA : X.heap[w.heap.size]? = some (.cells #[.int .i64 i] 2 (0, 0)) := hX ▸ alloc_far (alloc_far (heap_alloc_new w _) (by simp)) (by simp; omega)
  have hXB : X.heap[w.heap.size + 1]? = some (.cells #[.slice none 0 0, .slice none 0 0] 27 (0, 0)) := hX ▸ alloc_far (alloc_new1 w _ _) (by simp)
  have hXC : X.heap[w.heap.size + 2]? = some (.cells #[.int .i64 0] 2 (0, 0)) := by
    have h1 := heap_alloc_new ((w.alloc (.cells #[.int .i64 i] 2)).alloc (.cells #[.slice none 0 0, .slice none 0 0] 27)) (.cells #[.int .i64 0] 2)
    rw [World.size_alloc, World.size_alloc] at h1
    rw [hX]
    exact h1
  have hLX := h.below hXb
  obtain ⟨⟨n0, n1, n2, n3, n4⟩, _⟩ := five_cells hLX.cell
  have H := Lib.hid h
  have HLX := Lib.hid hLX
  have HXB := Lib.hid hXb
  have HXS := Lib.hid hXs
  have HA := Lib.hid hXA
  have HB := Lib.hid hXB
  have HC := Lib.hid hXC
  have HX := Lib.hid hX
  rw [hX] at n0 n1 n2 n3 n4
  unfold catBox at n0 n1 n2 n3 n4
  clear h hLX hXb hXs hXA hXB hXC hX
  refine (callsIn_wide (n := 3)).1 (callsIn_of_wp_marks Try.func35 rfl (by simp [Fence.wide]) (wpIn_wide.2 ?_))
  simp only [Try.ntmps35, List.size_toArray, List.length_cons, List.length_nil, Nat.reduceAdd, Nat.reduceSub, Array.replicate_succ, Array.replicate_zero, List.push_toArray, List.append_toArray, List.nil_append, List.cons_append]
  go_wp2_with fail
  refine (backward_any ae n cap _).mono ?_
  rintro e w1 ⟨rfl, rfl⟩
  go_wp2_with fail
  obtain ⟨W0, hW0⟩ : ∃ W0, W0 = (catBox w i).alloc (.cells #[.slice ae n cap] 22) := ⟨_, rfl⟩
  have hWb : Below w.heap.size w W0 := by rw [hW0, ← HX.out]; exact below_alloc HXB.out _
  have hWs : W0.heap.size = w.heap.size + 4 := by rw [hW0, ← HX.out, World.size_alloc, HXS.out]
  have hWA : W0.heap[w.heap.size]? = some (.cells #[.int .i64 i] 2 (0, 0)) := by rw [hW0, ← HX.out]; exact alloc_far HA.out (by rw [HXS.out]; omega)
  have hWB : W0.heap[w.heap.size + 1]? = some (.cells #[.slice none 0 0, .slice none 0 0] 27 (0, 0)) := by rw [hW0, ← HX.out]; exact alloc_far HB.out (by rw [HXS.out]; omega)
  have hWC : W0.heap[w.heap.size + 2]? = some (.cells #[.int .i64 0] 2 (0, 0)) := by rw [hW0, ← HX.out]; exact alloc_far HC.out (by rw [HXS.out]; omega)
  have hWD : W0.cell? ⟨w.heap.size + 3, 0, none⟩ = some (.slice ae n cap) := by
    have h1 := heap_alloc_new X (.cells #[.slice ae n cap] 22)
    rw [HXS.out] at h1
    rw [hW0, ← HX.out]
    simp [World.cell?, h1]
  unfold catBox at hW0
  rw [← hW0]
  clear hW0 n0 n1 n2 n3 n4
  have hrow := RowN.of_own (H.out.below hWb).row
  have hae : ∀ b off, ae = some ⟨b, off, none⟩ → 0 < n → b < W0.heap.size := fun b off e hn0 => by
    have := (H.out.row.lt b (by rw [e]; rfl)).2
    omega
  have HWS := Lib.hid hWs
  refine (wpIn_wide (n := 3)).1 ?_
  refine wpIn_rangeFunc_ownH (F := Fence.wide) rfl (by omega) (gf := 55) (lb := #[.pointer (some ⟨w.heap.size + 3, 0, none⟩)]) rfl (by simp [Fence.wide]) (enters_of Try.func55 (by kernel_rfl) rfl)
    (backward_stops Fence.wide 2 (by simp [Fence.wide]) rfl (by omega) (w.heap.size + 3) W0.heap.size ae n cap es H.out.len hn W0 hae (by omega) (Nat.le_refl _) hWD hrow) belowK_t (belowK_b (Nat.le_refl _)) (Below.refl _ _) (fun _ => rfl)
    (CatI w i es) (CatX w i es W0.heap.size)
    (fun s X Y row hs hg hr => ⟨⟨heap_kept hs.1.1 hg hr, heap_kept hs.1.2.1 hg hr, heap_kept hs.1.2.2 hg hr⟩, ownFrom_below (β := Unit) (Nat.le_refl _) (by omega) () X Y row hs.2.1 hg hr, Nat.le_trans hs.2.2.1 hg.size, hs.2.2.2⟩)
    (fun cc s X Y row hs hg hr => by
      obtain ⟨h1, ini, last, h2, h3, h4, h5, h6, c', h7, h8, h9, h10⟩ := hs
      exact ⟨h1, ini, last, h2, h3, h4, ownFrom_below (β := Unit) (Nat.le_refl _) (by omega) () X Y row h5 hg hr, heap_kept h6 hg hr, c', h7, heap_kept h8 hg hr, ownZ_kept h9 hg hr, ownZ_kept h10 hg hr⟩)
    ⟨⟨hWA, hWB, hWC⟩, hWb, by omega, fun e he => by cases he⟩
    (fun x a' W => ∃ Bx, W0.heap.size ≤ Bx ∧ W.heap[Bx]? = some (.cells #[.int .i64 x.1.2.ix, .int .i64 x.1.2.tm, .int .i64 x.1.2.kd, .slice x.1.2.s.a x.1.2.s.len x.1.2.s.cap] 32 (0, 0)) ∧ a' = { tmps := #[.pointer (some ⟨N, 0, none⟩), .int .i64 i, undef, .pointer (some ⟨w.heap.size, 0, none⟩), .pointer (some ⟨w.heap.size + 1, 0, none⟩), .pointer (some ⟨w.heap.size + 2, 0, none⟩), undef, .pointer (some ⟨Bx, 0, none⟩), undef, undef, .pointer (some ⟨N, 0, none⟩), .pointer (some ⟨N, 0, none⟩), .pointer (some ⟨N, 4, none⟩), .slice ae n cap,
      .func (.func 55) #[] #[.pointer (some ⟨w.heap.size + 3, 0, none⟩)], .int .i64 (x.1.1 : Int), .agg #[.int .i64 x.1.2.ix, .int .i64 x.1.2.tm, .int .i64 x.1.2.kd, .slice x.1.2.s.a x.1.2.s.len x.1.2.s.cap], undef, undef, undef, undef, undef, undef, undef, undef, undef, undef, undef, undef, undef, undef, undef, undef, undef, undef, undef, undef, undef, undef, undef, undef, undef, undef, undef], defers := [] })
    (fun x a' _ X Y row hs hg hr => by obtain ⟨Bx, h1, h2, h3⟩ := hs; exact ⟨Bx, h1, heap_kept h2 hg hr, h3⟩)
    ?assign ?body ?done ?stop
  case assign =>
    rintro l pre x W K hI hK
    clear hWs
    have hzW := hI.2.1.size
    have HI := Lib.hid hI
    clear hI
    unfold encB
    gi_wp2
    exact hK _ _ (keepsFrom_touch (Touch.alloc [] _ _) (fun k hk => by cases hk)) ((Below.refl _ W).alloc (by have := HI.out.2.2.1; have := HWS.out; omega) _)
      ⟨⟨alloc_far HI.out.1.1 (lt_of_block HI.out.1.1), alloc_far HI.out.1.2.1 (lt_of_block HI.out.1.2.1), alloc_far HI.out.1.2.2 (lt_of_block HI.out.1.2.2)⟩, HI.out.2.1.alloc hzW _, by rw [World.size_alloc]; have := HI.out.2.2.1; omega, HI.out.2.2.2⟩ ⟨W.heap.size, by have := HI.out.2.2.1; have := HWS.out; omega, heap_alloc_new _ _, rfl⟩
  case body =>
    rintro l pre x a' W hl ⟨r, hr⟩ hI ⟨Bx, hBx, hbx, rfl⟩ hlt
    clear hWs
    have hzW := hI.2.1.size
    have hnext : gives i x.1.2 = false → CatI w i es (pre ++ [x]) W := fun hg => ⟨hI.1, hI.2.1, hI.2.2.1, fun e he => by
      rw [entsB, List.map_append] at he
      rcases List.mem_append.1 he with he | he
      · exact hI.2.2.2 e he
      · rw [List.map_singleton, List.mem_singleton] at he
        rw [he]
        exact hg⟩
    have HN := Lib.hid hnext
    clear hnext
    obtain ⟨⟨b0, b1, b2, b3⟩, _⟩ := four_cells hbx
    obtain ⟨x0, x1⟩ : W.cell? ⟨w.heap.size, 0, none⟩ = some (.int .i64 i) ∧ True := ⟨by simp [World.cell?, hI.1.1], trivial⟩
    have HI := Lib.hid hI
    clear hI hr hl
    by_cases hk2 : x.1.2.kd = 2
    · have hk2' : (x.1.2.kd == 2) = true := by simp [hk2]
      by_cases hxi : x.1.2.ix ≤ i
      · have hgv : gives i x.1.2 = true := by rw [gives, decide_eq_true hk2, decide_eq_true hxi]; rfl
        have hso : Row8 W x.1.2.s.a x.1.2.s.len x.1.2.s.bs ∧ x.1.2.s.len ≤ x.1.2.s.cap ∧ x.1.2.s.cap ≤ maxLen ∧ (x.1.2.s.a = none → x.1.2.s.cap = 0) := by
          have h1 := H.out.own x.1.2 (List.mem_of_getElem? x.2)
          exact ⟨h1.row.below HI.out.2.1, h1.cap.1, h1.cap.2, h1.nocap⟩
        have hld0 := load_any x.1.2.s.a x.1.2.s.len x.1.2.s.cap x.1.2.s.bs W hso.1 hso.2.1 hso.2.2.1 hso.2.2.2
        obtain ⟨cd, hcd⟩ : ∃ cd : Int, cd = (if loadOf x.1.2.s.bs = none then 30 else 0) := ⟨_, rfl⟩
        have hld : Calls Try.prog 46 #[.slice x.1.2.s.a x.1.2.s.len x.1.2.s.cap] W fun e w' => ∃ v, e = .returned (.tuple #[v, .int .i64 cd]) ∧ RetConf W ((loadOf x.1.2.s.bs).getD ([], [])) (.returned v) w' := by
          rw [hcd]
          exact hld0
        have HLD := Lib.hid hld
        have HGV := Lib.hid hgv
        clear hk2 hso hld hgv hcd hld0
        have h1' : 1 ≤ 3 - 1 - 1 := by omega
        gi_wp2_with (refine ⟨trivial, ?_⟩; gi_at_call 46; refine (CallsIn.inRound l (callsIn_wide.2 HLD.out)).mono ?_; rintro e w2 ⟨v, rfl, c', hv, hs, ho1, ho2, hb⟩; injection hv with hv; subst hv; have HS := Lib.hid hs; have HO1 := Lib.hid ho1; have HO2 := Lib.hid ho2; have HB2 := Lib.hid hb; clear hs ho1 ho2 hb)
        obtain ⟨Y, hY⟩ : ∃ Y, Y = w2.alloc (.cells #[.slice c'.v.a c'.v.len c'.v.cap, .slice c'.l.a c'.l.len c'.l.cap] 27) := ⟨_, rfl⟩
        have hbY : Below W.heap.size W Y := hY ▸ below_alloc HB2.out _
        have hY8 : Y.heap[w2.heap.size]? = some (.cells #[.slice c'.v.a c'.v.len c'.v.cap, .slice c'.l.a c'.l.len c'.l.cap] 27 (0, 0)) := hY ▸ heap_alloc_new w2 _
        have ho1 : OwnZ Y W.heap.size c'.v := hY ▸ own_keep HO1.out fun g _ hl => alloc_far rfl hl
        have ho2 : OwnZ Y W.heap.size c'.l := hY ▸ own_keep HO2.out fun g _ hl => alloc_far rfl hl
        have hzY : W.heap.size ≤ w2.heap.size := HB2.out.size
        rw [← hY]
        clear b0 b1 b2 b3 x0 hY
        obtain ⟨⟨b0, b1, b2, b3⟩, _⟩ := four_cells ((hbY.block Bx (lt_of_block hbx)).trans hbx)
        obtain ⟨d0, d1, _, _⟩ := two_cells hY8
        have hp4 := (hbY.block _ (lt_of_block HI.out.1.2.1)).trans HI.out.1.2.1
        have hp5 := (hbY.block _ (lt_of_block HI.out.1.2.2)).trans HI.out.1.2.2
        obtain ⟨p0, p1, f0, f1⟩ := two_cells hp4
        have q0 := cell_of_one hp5
        have q1 := free_of_one hp5
        have HBY := Lib.hid hbY
        have HP4 := Lib.hid hp4
        have HP5 := Lib.hid hp5
        have HO1' := Lib.hid ho1
        have HO2' := Lib.hid ho2
        clear hbY hY8 hp4 hp5 ho1 ho2 hbx
        have hmo : Try.prog.follows .mixedOrders = true := by kernel_rfl
        have hws := HWS.out
        have hwz := HI.out.2.2.1
        have e1 : Bx ≠ w.heap.size + 1 := by omega
        have e2 : w.heap.size + 1 ≠ Bx := by omega
        have e3 : Bx ≠ w.heap.size + 2 := by omega
        have e4 : w.heap.size + 2 ≠ Bx := by omega
        have e5 : w2.heap.size ≠ w.heap.size + 1 := by omega
        have e6 : w.heap.size + 1 ≠ w2.heap.size := by omega
        have e7 : w2.heap.size ≠ w.heap.size + 2 := by omega
        have e8 : w.heap.size + 2 ≠ w2.heap.size := by omega
        have hfin : KeepsFrom W0.heap.size W (((Y.setCell ⟨w.heap.size + 1, 0, none⟩ (.slice c'.v.a c'.v.len c'.v.cap)).setCell ⟨w.heap.size + 1, 1, none⟩ (.slice c'.l.a c'.l.len c'.l.cap)).setCell ⟨w.heap.size + 2, 0, none⟩ (.int .i64 x.1.2.ix)).drew ∧
            CatX w i es W0.heap.size .ret (pre ++ [x]) (((Y.setCell ⟨w.heap.size + 1, 0, none⟩ (.slice c'.v.a c'.v.len c'.v.cap)).setCell ⟨w.heap.size + 1, 1, none⟩ (.slice c'.l.a c'.l.len c'.l.cap)).setCell ⟨w.heap.size + 2, 0, none⟩ (.int .i64 x.1.2.ix)).drew := by
          have ht : Touch [w.heap.size + 1, w.heap.size + 2] Y (((Y.setCell ⟨w.heap.size + 1, 0, none⟩ (.slice c'.v.a c'.v.len c'.v.cap)).setCell ⟨w.heap.size + 1, 1, none⟩ (.slice c'.l.a c'.l.len c'.l.cap)).setCell ⟨w.heap.size + 2, 0, none⟩ (.int .i64 x.1.2.ix)).drew :=
            Touch.drew (touch_set (touch_set (touch_set (Touch.refl _ _) _ _ _ (by simp)) _ _ _ (by simp)) _ _ _ (by simp))
          have htW := (Touch.of_below (S := [w.heap.size + 1, w.heap.size + 2]) HBY.out).trans ht
          have hzY2 := HBY.out.size
          refine ⟨keepsFrom_touch htW (fun k hk => by simp at hk; omega), rfl, entsB pre, x.1.2, by rw [entsB, List.map_append]; rfl, HI.out.2.2.2, HGV.out, htW.below HI.out.2.1 (by omega) (fun k hk => by simp at hk; omega), ?_, c', HS.out, ?_, ?_, ?_⟩
          · exact set_block (i := 0) (set_far (set_far HP5.out (by omega)) (by omega)) _
          · exact set_far (set_block (i := 1) (set_block (i := 0) HP4.out _) _) (by omega)
          · exact own_more (own_keep HO1'.out fun g hg hl => ht.block g hl (fun hm => by have := (HO1'.out.lt g hg).1; simp at hm; omega)) (by omega)
          · exact own_more (own_keep HO2'.out fun g hg hl => ht.block g hl (fun hm => by have := (HO2'.out.lt g hg).1; simp at hm; omega)) (by omega)
        have HFIN := Lib.hid hfin
        clear hws hwz hfin
        gi_region_with_o (first | fail)
        all_goals gi_wp2
        all_goals exact HFIN.out
      · have hgv : gives i x.1.2 = false := by rw [gives, decide_eq_false hxi, Bool.and_false]
        have hxi' : decide (x.1.2.ix ≤ i) = false := decide_eq_false hxi
        clear hk2
        gi_wp2
        exact ⟨KeepsFrom.refl _ _, Below.refl _ _, HN.out hgv⟩
    · have hk2' : (x.1.2.kd == 2) = false := beq_eq_false_iff_ne.2 hk2
      have hgv : gives i x.1.2 = false := by rw [gives, decide_eq_false hk2, Bool.false_and]
      gi_wp2
      exact ⟨KeepsFrom.refl _ _, Below.refl _ _, HN.out hgv⟩
  case done =>
    rintro D ys W hD hys hI hK
    clear hWs
    have hfind : es.reverse.find? (gives i) = none := List.find?_eq_none.2 (fun e he => by rw [hI.2.2.2 e (by rw [hys]; exact he)]; simp)
    have hco : confAtOf ix c.says es i = (c.says, ix) := by rw [confAtOf, hfind]
    have hLW := H.out.below hI.2.1
    have hcl := fun Z (hZ : Below W.heap.size W Z) => confClone_any c Z ((Cf.ok_of_own hLW.vo hLW.le).below hZ) hcn
    have hce : ∀ w', Below W.heap.size W w' → (w'.cell? ⟨N, 0, none⟩ = some (.int .i64 ix) ∧ w'.cell? ⟨N, 2, none⟩ = some (.slice c.v.a c.v.len c.v.cap) ∧ w'.cell? ⟨N, 3, none⟩ = some (.slice c.l.a c.l.len c.l.cap)) := fun w' hb => by
      obtain ⟨⟨c0, c1, c2, c3, c4⟩, _⟩ := five_cells (hLW.below hb).cell
      exact ⟨c0, c2, c3⟩
    have HCO := Lib.hid hco
    have HCL := Lib.hid hcl
    have HCE := Lib.hid hce
    have HI := Lib.hid hI
    have HK := Lib.hid hK
    have hNl := lt_of_block H.out.cell
    have e1 : N ≠ w.heap.size + 1 := by omega
    have e2 : w.heap.size + 1 ≠ N := by omega
    have e3 : N ≠ w.heap.size + 2 := by omega
    have e4 : w.heap.size + 2 ≠ N := by omega
    clear hfind hco hLW hcl hce hI hK hys
    go_wp2_with fail
    go_region_held3 (fun w' => w'.cell? ⟨N, 0, none⟩ = some (.int .i64 ix) ∧ w'.cell? ⟨N, 2, none⟩ = some (.slice c.v.a c.v.len c.v.cap) ∧ w'.cell? ⟨N, 3, none⟩ = some (.slice c.l.a c.l.len c.l.cap))
      (first | exact HCE.out _ hY2 | exact HCE.out _ (Below.refl _ _).drew | go_keep)
      (first
        | (go_at_call 31; refine (HCL.out _ (Below.refl _ _).drew).mono ?_; rintro e w2 ⟨c', rfl, hs2, hv2, hl2, hb2⟩; have hY2 : Below W.heap.size W w2 := below_then (Below.refl _ _).drew hb2; obtain ⟨z0, z1, y0, y1⟩ := two_cells ((hY2.block _ (lt_of_block HI.out.1.2.1)).trans HI.out.1.2.1); have z2 := cell_of_one ((hY2.block _ (lt_of_block HI.out.1.2.2)).trans HI.out.1.2.2); have y2 := free_of_one ((hY2.block _ (lt_of_block HI.out.1.2.2)).trans HI.out.1.2.2); have HS2 := Lib.hid hs2; have HV2 := Lib.hid hv2; have HL2 := Lib.hid hl2; clear hs2 hv2 hl2 hb2))
    all_goals
      go_wp2_with fail
      have htF : Touch [w.heap.size + 1, w.heap.size + 2] W (((w2.setCell ⟨w.heap.size + 1, 0, none⟩ (.slice c'.v.a c'.v.len c'.v.cap)).setCell ⟨w.heap.size + 1, 1, none⟩ (.slice c'.l.a c'.l.len c'.l.cap)).setCell ⟨w.heap.size + 2, 0, none⟩ (.int .i64 ix)) :=
        (Touch.of_below hY2).trans (touch_set (touch_set (touch_set (Touch.refl _ _) _ _ _ (by simp)) _ _ _ (by simp)) _ _ _ (by simp))
      have hws := HWS.out
      have hzW := HI.out.2.1.size
      have hz2 := hY2.size
      have hDl := lt_of_block' HK.out
      have hKF := (htF.block D hDl (by simp; omega)).trans HK.out
      have h4 := (hY2.block _ (lt_of_block HI.out.1.2.1)).trans HI.out.1.2.1
      have h5 := (hY2.block _ (lt_of_block HI.out.1.2.2)).trans HI.out.1.2.2
      have h6 := set_block (i := 0) (set_far (i := 1) (v := .slice c'.l.a c'.l.len c'.l.cap) (g' := w.heap.size + 1) (set_far (i := 0) (v := .slice c'.v.a c'.v.len c'.v.cap) (g' := w.heap.size + 1) h5 (by omega)) (by omega)) (.int .i64 ix)
      have h8 := set_far (i := 0) (v := .int .i64 ix) (g' := w.heap.size + 2) (set_block (i := 1) (set_block (i := 0) h4 (.slice c'.v.a c'.v.len c'.v.cap)) (.slice c'.l.a c'.l.len c'.l.cap)) (by omega)
      have k9 : ∀ s : Is, OwnZ w2 W.drew.heap.size s → OwnZ (((w2.setCell ⟨w.heap.size + 1, 0, none⟩ (.slice c'.v.a c'.v.len c'.v.cap)).setCell ⟨w.heap.size + 1, 1, none⟩ (.slice c'.l.a c'.l.len c'.l.cap)).setCell ⟨w.heap.size + 2, 0, none⟩ (.int .i64 ix)) w.heap.size s := fun s hs => own_more (own_keep hs fun g hg hl => (set_far (set_far (set_far rfl (by have h1 := (hs.lt g hg).1; rw [size_drew] at h1; have := HI.out.2.2.1; omega)) (by have h1 := (hs.lt g hg).1; rw [size_drew] at h1; have := HI.out.2.2.1; omega)) (by have h1 := (hs.lt g hg).1; rw [size_drew] at h1; have := HI.out.2.2.1; omega))) (by rw [size_drew]; omega)
      have h9 := k9 _ HV2.out
      have h10 := k9 _ HL2.out
      have hb := htF.below HI.out.2.1 hzW (fun k hk => by simp at hk; omega)
      have hgr := grownBy_putObj' (((w2.setCell ⟨w.heap.size + 1, 0, none⟩ (.slice c'.v.a c'.v.len c'.v.cap)).setCell ⟨w.heap.size + 1, 1, none⟩ (.slice c'.l.a c'.l.len c'.l.cap)).setCell ⟨w.heap.size + 2, 0, none⟩ (.int .i64 ix)) D (.deferred none)
      have hro : ∀ r, some D = some r → W0.heap.size ≤ r ∧ ∃ o : Obj, (((w2.setCell ⟨w.heap.size + 1, 0, none⟩ (.slice c'.v.a c'.v.len c'.v.cap)).setCell ⟨w.heap.size + 1, 1, none⟩ (.slice c'.l.a c'.l.len c'.l.cap)).setCell ⟨w.heap.size + 2, 0, none⟩ (.int .i64 ix)).heap[r]? = some o ∧ o.isCells = false := fun r e => by cases e; exact ⟨hD, _, hKF, rfl⟩
      refine ⟨by simp, .inl ⟨_, _, rfl, run_takeDeferred hKF, ?_⟩⟩
      refine ⟨_, results_cells2 Try.results35 rfl (load_conf (heap_kept h8 hgr hro)) rfl (load_i64 (heap_kept h6 hgr hro)), ?_⟩
      rw [HCO.out]
      exact ⟨_, rfl, c', rfl, HS2.out, ownZ_kept h9 hgr hro, ownZ_kept h10 hgr hro, hb.grown hgr hb.size (fun k e => by cases e; omega)⟩
  case stop =>
    rintro D cc pre W hD ⟨k, hk, hpre⟩ hX hK
    clear hWs
    obtain ⟨rfl, ini, last, h2, h3, h4, h5, h6, c', h7, h8, h9, h10⟩ := hX
    have hfind : es.reverse.find? (gives i) = some last := by
      rw [← List.take_append_drop k es.reverse, ← hpre, h2, List.find?_append, List.find?_append]
      have hn0 : ini.find? (gives i) = none := List.find?_eq_none.2 (fun e he => by rw [h3 e he]; simp)
      rw [hn0]
      simp [h4]
    have hgr := grownBy_putObj' W D (.deferred none)
    have hro : ∀ r, some D = some r → W0.heap.size ≤ r ∧ ∃ o : Obj, W.heap[r]? = some o ∧ o.isCells = false := fun r e => by cases e; exact ⟨hD, _, hK, rfl⟩
    have h6' := heap_kept h6 hgr hro
    have h8' := heap_kept h8 hgr hro
    have h9' := ownZ_kept h9 hgr hro
    have h10' := ownZ_kept h10 hgr hro
    have hws := HWS.out
    have hbl : Below w.heap.size w (W.putObj D (.deferred none)) := h5.grown hgr h5.size (fun k e => by cases e; omega)
    have hco : confAtOf ix c.says es i = ((loadOf last.s.bs).getD ([], []), last.ix) := by rw [confAtOf, hfind]
    have HCO := Lib.hid hco
    have HF := Lib.hid (And.intro h6' (And.intro h8' (And.intro h9' (And.intro h10' hbl))))
    clear h6 h8 h9 h10 h6' h8' h9' h10' hbl hgr hro h5 hco hfind hws
    gi_wp2
    refine ⟨by simp, .inl ⟨_, _, rfl, run_takeDeferred hK, ?_⟩⟩
    obtain ⟨h6', h8', h9', h10', hbl⟩ := HF.out
    refine ⟨_, results_cells2 Try.results35 rfl (load_conf h8') rfl (load_i64 h6'), ?_⟩
    rw [HCO.out]
    exact ⟨_, rfl, c', rfl, h7, own_more h9' (by have := HWS.out; omega), own_more h10' (by have := HWS.out; omega), hbl⟩
end Go.Proofs.Ytpaommkjafdghaa
