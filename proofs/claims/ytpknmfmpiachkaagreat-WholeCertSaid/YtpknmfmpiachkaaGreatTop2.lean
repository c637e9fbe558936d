/- WholeCert: the walk. -/
import Derived.Test.YtpknmfmpiachkaaGreatTops
import Derived.Test.YtpknmfmpiachkaaGreatRds
import Derived.Deep.CutBlock
import Derived.Deep.LoopGhost
namespace Go.Proofs.YtpknmfmpiachkaaGreat
open Go.RowKit

/-- a Cert, what it has let commit (G: a ghost that keeps all), and the history in memory -/
structure One (w : World) (κ : Nat → Nat) (A : Nat) (wx : World) (c G : CertV) (a : Option Addr) (n cap : Nat) : Prop where
  sim : Sim0 c G
  good : Good G.recs
  cert : CertAt wx κ 10 A c
  row : HRow w κ 30 wx a n cap (G.recs.map doneG)
  mem : ∀ r ∈ G.recs, r.m.ok w
  below : Below w.heap.size w wx
  old : ∀ g, g < w.heap.size → κ g = 0
theorem One.chg0 {w : World} {κ κ' : Nat → Nat} {A : Nat} {wx w1 : World} {c G : CertV} {a : Option Addr} {n cap : Nat} (h : One w κ A wx c G a n cap) (hc : Chg (fun _ => False) κ κ' wx w1) : One w κ' A w1 c G a n cap :=
  ⟨h.sim, h.good, h.cert.chg hc (fun _ h => h.elim), h.row.chg hc id, h.mem, hc.below h.below fun _ _ => id, fun g hg => (hc.paint g (Nat.lt_of_lt_of_le hg h.below.size)).trans (h.old g hg)⟩
/-- a block of the walk's own is written -/
theorem One.loc {w : World} {κ : Nat → Nat} {A : Nat} {wx w1 : World} {c G : CertV} {a : Option Addr} {n cap B : Nat} (h : One w κ A wx c G a n cap) (hB : κ B = 0) (hw : w.heap.size ≤ B) (hg : wx.grownBy w1 (some B)) : One w κ A w1 c G a n cap := by
  have hc : Chg (· = 0) κ κ wx w1 := Chg.of_grown hg hB
  exact ⟨h.sim, h.good, h.cert.chg hc (fun i hi => by omega), h.row.chg hc (by omega), h.mem, ⟨hg.os.trans h.below.os, hg.tape.trans h.below.tape, hg.output.trans h.below.output, Nat.le_trans h.below.size hg.size, fun g hgl => (hg.block g (Nat.lt_of_lt_of_le hgl h.below.size) (fun e => by have := Option.some.inj e; omega)).trans (h.below.block g hgl)⟩, h.old⟩
/-- Decide changes its Cert alone -/
theorem One.step {w : World} {κ κ' : Nat → Nat} {A : Nat} {wx w1 : World} {c c' G : CertV} {a : Option Addr} {n cap : Nat} (h : One w κ A wx c G a n cap) (hc : Chg (fun i => 10 ≤ i ∧ i ≤ 10 + 9) κ κ' wx w1) (hC : CertAt w1 κ' 10 A c') :
    CertAt w1 κ' 10 A c' ∧ HRow w κ' 30 w1 a n cap (G.recs.map doneG) ∧ Below w.heap.size w w1 ∧ ∀ g, g < w.heap.size → κ' g = 0 :=
  ⟨hC, h.row.chg hc (by omega), hc.below h.below fun g hg => by rw [h.old g hg]; omega, fun g hg => (hc.paint g (Nat.lt_of_lt_of_le hg h.below.size)).trans (h.old g hg)⟩
/-- what is kept of the history while Decide's answer is looked at -/
structure Mid (w : World) (κ : Nat → Nat) (A : Nat) (wx : World) (c G : CertV) (a : Option Addr) (n cap : Nat) : Prop where
  cert : CertAt wx κ 10 A c
  row : HRow w κ 30 wx a n cap (G.recs.map doneG)
  below : Below w.heap.size w wx
  old : ∀ g, g < w.heap.size → κ g = 0
theorem Mid.chg0 {w : World} {κ κ' : Nat → Nat} {A : Nat} {wx w1 : World} {c G : CertV} {a : Option Addr} {n cap : Nat} (h : Mid w κ A wx c G a n cap) (hc : Chg (fun _ => False) κ κ' wx w1) : Mid w κ' A w1 c G a n cap :=
  ⟨h.cert.chg hc (fun _ h => h.elim), h.row.chg hc id, hc.below h.below fun _ _ => id, fun g hg => (hc.paint g (Nat.lt_of_lt_of_le hg h.below.size)).trans (h.old g hg)⟩
theorem newSim (keep old : Int) : Sim0 (newP keep old) (newP 32 64) := ⟨newP_ok _ _, fun t h => by simp [newP] at h, rfl, rfl, rfl, rfl, rfl, rfl, ⟨[], [], rfl, trivial, fun _ h => absurd h List.not_mem_nil⟩, fun i t h => by simp [newP] at h, rfl⟩
/-- one more has committed -/
theorem Mid.push {w : World} {κ : Nat → Nat} {A : Nat} {V w6 : World} {c c' G : CertV} {a a' : Option Addr} {n cap cap' : Nat} {m : SubM} {num : Int} {o : Obj} (h : Mid w κ A V c' G a n cap) (hs : Sim0 c G) (hg : Good G.recs) (hm : ∀ r ∈ G.recs, r.m.ok w) (hmw : m.ok w) (hst : Step c m.s 0 num c')
    (ho : w6.ownsRow w.heap.size 40 7 (.slice a' (n + 1) cap') (n + 1) ((G.recs.map doneG).flatMap DoneV.cells ++ DoneV.cells ⟨num, m⟩)) (hgr : (V.alloc o).grownBy w6 (Value.slice a n cap).ownBlock) (hat : (Value.slice a' (n + 1) cap').ownBlock = (Value.slice a n cap).ownBlock ∨ (Value.slice a' (n + 1) cap').ownBlock = some (V.alloc o).heap.size) :
    ∃ κ' G', One w κ' A w6 c' G' a' (n + 1) cap' := by
  obtain ⟨hnum, hs2⟩ := hs.commit hmw.words hst m rfl
  have hgood := hg.snoc (hs.good hmw.words hst.1.symm m rfl)
  have hg2 : V.grownBy w6 (Value.slice a n cap).ownBlock := (World.grownBy_alloc V o _).trans hgr
  have hz : (V.alloc o).heap.size = V.heap.size + 1 := by simp
  obtain ⟨hc, hr⟩ := h.row.push ho hg2 (by
    rcases hat with h | h
    · exact .inl h
    · exact .inr ⟨_, h, by omega⟩)
  refine ⟨_, _, hs2, hgood, h.cert.chg hc (fun i hi => by omega), ?_, fun r hr => ?_, hc.below h.below fun g hg => by rw [h.old g hg]; omega, fun g hg => (hc.paint g (Nat.lt_of_lt_of_le hg h.below.size)).trans (h.old g hg)⟩
  · show HRow w _ 30 w6 a' (n + 1) cap' (List.map doneG (G.recs ++ [_]))
    rw [List.map_append, List.map_cons, List.map_nil]
    rw [hnum] at hr
    exact hr
  · rcases List.mem_append.1 hr with hr | hr
    · exact hm r hr
    · rw [List.mem_singleton.1 hr]; exact hmw

set_option maxRecDepth 100000 in
set_option maxHeartbeats 25600000 in
theorem wholeCert_any (keep old : Int) (a : Option Addr) (n cap : Nat) (subs : List SubM) (w : World) (_ : (Lit.int .i64 keep).wf = true) (_ : (Lit.int .i64 old).wf = true) (hrow : RowN w a 6 n (subs.flatMap SubM.row)) (hl : subs.length = n) (hn : n ≤ 9223372036854775807) (hok : ∀ m ∈ subs, m.ok w) :
    Calls Tryz.prog 4 #[.int .i64 keep, .int .i64 old, .slice a n cap] w (RetBox w (.bool true)) := by
  have hn1 := fun W => new_any (fun _ => 0) 10 keep old W
  have hso := sound_any
  have HROW := Lib.hid hrow
  have HLEN := Lib.hid hl
  have HOK := Lib.hid hok
  have HN1 := Lib.hid hn1
  have HSO := Lib.hid hso
  clear hrow hl hok hn1 hso
  go_enter Tryz.func4, Tryz.ntmps4
  go_wp2_with fail
  refine (HSO.out _).mono ?_
  rintro e w1 ⟨rfl, hb1⟩
  have HB1 := Lib.hid hb1
  clear hb1 HSO
  go_wp2_with fail
  refine (HN1.out _).mono ?_
  rintro e w2 ⟨A1, κ1, rfl, hA1, hb2, hκ1, hC1⟩
  obtain ⟨XB0, hXB0⟩ : ∃ XB0, XB0 = w2.heap.size := ⟨_, rfl⟩
  obtain ⟨X0, hX0⟩ : ∃ X0, X0 = w2.alloc (.cells #[] 40) := ⟨_, rfl⟩
  have hB2 : Below w.heap.size w w2 := below_then HB1.out hb2
  have hold : ∀ g, g < w.heap.size → κ1 g = 0 := fun g hg => hκ1 g (Nat.lt_of_lt_of_le hg HB1.out.size)
  have hbX0 : Below w2.heap.size w2 X0 := hX0 ▸ below_alloc (Below.refl _ _) _
  have hc0 := chg_tint (κ := κ1) (i := 30) hbX0
  have hON : One w (tint w2 κ1 30) A1 X0 (newP keep old) (newP 32 64) (some ⟨XB0, 0, none⟩) 0 0 :=
    ⟨newSim keep old, Good.nil, hC1.chg hc0 (fun _ h => h.elim), ⟨rfl, hXB0 ▸ hX0 ▸ World.ownsRow_made w2 #[] 0 hB2.size (by decide) rfl, fun g hg => by
      have : XB0 = g := Option.some.inj hg
      exact tint_new (by omega)⟩, fun r h => absurd h List.not_mem_nil, below_then hB2 hbX0, fun g hg => (tint_old (Nat.lt_of_lt_of_le hg hB2.size)).trans (hold g hg)⟩
  obtain ⟨κ0, hκ0⟩ : ∃ κ0, κ0 = tint w2 κ1 30 := ⟨_, rfl⟩
  rw [← hκ0] at hON
  have HT0 := Lib.hid hON
  have HX0 := Lib.hid hX0
  have HXB0 := Lib.hid hXB0
  clear hA1 hb2 hκ1 hC1 hX0 hXB0 hB2 hold hbX0 hc0 hON hκ0 HN1 HB1
  go_upto_block 0 with fail
  rw [← HX0.out, ← HXB0.out]
  clear HX0 HXB0
  go_cut [8] (fun s8 wx => ∃ (m cp : Nat) (ha : Option Addr) (κ : Nat → Nat) (c G : CertV), s8 = .slice ha m cp ∧ m ≤ 64 ∧ Hid (One w κ A1 wx c G ha m cp))
  case first =>
    go_wp2_with fail
    go_loopg [8, 25] n (fun g s8 s25 wx => ∃ (k m cp : Nat) (ha : Option Addr) (κ : Nat → Nat) (c G : CertV), s8 = .slice ha m cp ∧ s25 = .int .i64 k ∧ k ≤ n ∧ m ≤ k ∧ m ≤ 64 ∧ g = n - k ∧ Hid (One w κ A1 wx c G ha m cp))
    case atStart => exact ⟨0, 0, 0, _, κ0, _, _, rfl, rfl, Nat.zero_le _, Nat.le_refl _, by omega, rfl, HT0.out⟩
    case round =>
      obtain ⟨k, m, cp, ha, κ, c, G, rfl, rfl, hk, hmk, hm64, rfl, HT⟩ := hrel
      clear HT0
      have hk0 : (0 : Int) ≤ (k : Int) := by omega
      have hnat : ((k : Int)).toNat = k := by omega
      by_cases hlt : k < n
      · obtain ⟨x, hx⟩ : ∃ x, subs[k]? = some x := ⟨_, List.getElem?_eq_getElem (by rw [HLEN.out]; exact hlt)⟩
        have HM := Lib.hid (HOK.out x (List.mem_of_getElem? hx))
        obtain ⟨b, off, rfl, q0, q1, q2, q3, q4, q5⟩ := sub_at (HROW.out.below HT.out.below) HLEN.out k hlt x hx
        have hkn : (k : Int) < (n : Int) := by omega
        obtain ⟨XB, hXB⟩ : ∃ XB, XB = wr.heap.size := ⟨_, rfl⟩
        obtain ⟨X, hX⟩ : ∃ X, X = wr.alloc (.cells #[.int .i64 x.s.session, .int .i64 x.s.seq, .int .i64 x.s.snap, .slice x.ra x.s.reads.length x.rc, .slice x.sa x.s.spans.length x.sc, .slice x.wa x.s.writes.length x.wc] 26) := ⟨_, rfl⟩
        have hbX : Below wr.heap.size wr X := hX ▸ below_alloc (Below.refl _ _) _
        have HXB : Hid (X.heap[XB]? = some (.cells #[.int .i64 x.s.session, .int .i64 x.s.seq, .int .i64 x.s.snap, .slice x.ra x.s.reads.length x.rc, .slice x.sa x.s.spans.length x.sc, .slice x.wa x.s.writes.length x.wc] 26 (0, 0))) := hXB ▸ hX ▸ heap_alloc_new wr _
        have HT1 := Lib.hid (HT.out.chg0 (chg_tint (i := 0) hbX))
        have HC1 : Hid (tint wr κ 0 XB = 0) := tint_new (by omega)
        have HLX : Hid (w.heap.size ≤ XB) := by have := HT.out.below.size; show _ ≤ _; omega
        obtain ⟨κ', hκ'⟩ : ∃ κ', κ' = tint wr κ 0 := ⟨_, rfl⟩
        rw [← hκ'] at HT1 HC1
        clear hκ' hbX HT hx
        have HX := Lib.hid hX
        have HXE := Lib.hid hXB
        clear hX hXB
        go_upto_region 10 with fail
        rw [← HX.out, ← HXE.out]
        clear HX HXE q0 q1 q2 q3 q4 q5
        by_cases h64 : 64 ≤ k
        · have hk64 : (64 : Int) ≤ (k : Int) := by omega
          go_wp2_with fail
          go_meet
          exact ⟨m, cp, ha, κ', c, G, rfl, hm64, HT1⟩
        have hk64 : ¬ (64 : Int) ≤ (k : Int) := by omega
        go_upto_region 11 with fail
        obtain ⟨_, _, c2, _, _, _⟩ := six_cells HXB.out
        obtain ⟨CC, hCC⟩ : ∃ CC : Bool, CC = (decide (x.s.snap < 0) && decide (-50 < x.s.snap)) := ⟨_, rfl⟩
        go_cut [39] (fun s39 wx => s39 = .bool CC ∧ X = wx)
        case first =>
          by_cases h1 : x.s.snap < 0
          · by_cases h2 : -50 < x.s.snap
            · go_wp2_with fail
              go_meet
              exact ⟨by rw [hCC, decide_eq_true h1, decide_eq_true h2]; rfl, rfl⟩
            · go_wp2_with fail
              go_meet
              exact ⟨by rw [hCC, decide_eq_true h1, decide_eq_false (by omega)]; rfl, rfl⟩
          · go_wp2_with fail
            go_meet
            exact ⟨by rw [hCC, decide_eq_false (by omega)]; rfl, rfl⟩
        case rest =>
          obtain ⟨rfl, rfl⟩ := hcut
          have HSN : Hid (adjI c.count x.s.snap = if CC = true then max (c.count + 1 + x.s.snap) 0 else x.s.snap) := by
            show _ = _
            rw [hCC]
            unfold adjI
            by_cases h1 : x.s.snap < 0 <;> by_cases h2 : -50 < x.s.snap <;> simp [h1, h2]
          have hcount := HT1.out.sim.lok.count
          have hcn := fun W => count_any κ' 10 A1 c W
          go_upto_if 39 with fail
          go_cut [] (fun wy => X.grownBy wy (some XB) ∧ wy.heap[XB]? = some (.cells #[.int .i64 x.s.session, .int .i64 x.s.seq, .int .i64 (adjI c.count x.s.snap), .slice x.ra x.s.reads.length x.rc, .slice x.sa x.s.spans.length x.sc, .slice x.wa x.s.writes.length x.wc] 26 (0, 0)))
          case first =>
            cases CC with
            | false =>
              have HS2 : Hid (adjI c.count x.s.snap = x.s.snap) := by show _ = _; rw [HSN.out]; rfl
              clear hCC HSN
              go_wp2_with fail
              go_meet
              exact ⟨grown_refl _ _, by rw [HS2.out]; exact HXB.out⟩
            | true =>
              have hs : x.s.snap < 0 ∧ -50 < x.s.snap := by
                have := hCC.symm
                simpa using this
              have HS2 : Hid (adjI c.count x.s.snap = max (c.count + 1 + x.s.snap) 0) := by show _ = _; rw [HSN.out]; rfl
              clear hCC HSN
              have f2 : X.frozen? ⟨XB, 2, none⟩ = false := by have h := HXB.out; simp [World.frozen?, h]
              go_upto_region 12 with fail
              refine wp_region_noPanic ?_
              refine wp_region_held_drew (S := (fun _ => True)) (by kernel_rfl) ?_ (fun hHeld0 => ?_)
              · trivial
              refine wpAnyH_take (i := 0) (oi := _) (v := ?_) rfl (by kernel_rfl) (by kernel_rfl) (by kernel_rfl) (fun _ _ _ h => h) (Or.inl ⟨by kernel_rfl, ?_⟩) (by assumption) ?_
              rotate_left
              · intro wH hSw; (try dsimp only at hSw); go_simp <;> with_reducible rfl
              (try simp only [Act.put]); (try simp only [List.setIfInBounds_toArray]); (try simp only [List.set])
              refine wpAnyH_take (i := 3) (oi := _) (v := ?_) rfl (by kernel_rfl) (by kernel_rfl) (by kernel_rfl) (fun _ _ _ h => h) (Or.inl ⟨by kernel_rfl, ?_⟩) (by assumption) ?_
              rotate_left
              · intro wH hSw; (try dsimp only at hSw); go_simp <;> with_reducible rfl
              (try simp only [Act.put]); (try simp only [List.setIfInBounds_toArray]); (try simp only [List.set])
              refine wpAnyH_ready (rs := [1, 4]) (by kernel_rfl) (by simp) ?_
              refine AllReadyH.cons (o := _) rfl (fun K hK => ?_) (AllReadyH.cons (o := _) rfl (fun K hK => ?_) AllReadyH.nil)
              · skip
                go_simp
                refine (hcn _ (HT1.out.cert.chg (Chg.of_below (J := fun _ => False) (Below.refl _ _)).drew (fun _ h => h.elim))).mono ?_
                rintro e w1 ⟨rfl, rfl⟩
                go_wp2_with fail
                refine hK.out _ _ ?_ (fun hHeld1 => ?_)
                · trivial
                clear hK K hHeld0
                (try simp only [Act.put]); (try simp only [List.setIfInBounds_toArray]); (try simp only [List.set])
                refine wpAnyH_take (i := 2) (oi := _) (v := ?_) rfl (by kernel_rfl) (by kernel_rfl) (by kernel_rfl) (fun _ _ _ h => h) (Or.inl ⟨by kernel_rfl, ?_⟩) (by assumption) ?_
                rotate_left
                · intro wH hSw; (try dsimp only at hSw); go_simp <;> with_reducible rfl
                (try simp only [List.getElem_toArray]); (try simp only [List.getElem_cons_succ]); (try simp only [List.getElem_cons_zero]); (try simp only [Act.put]); (try simp only [List.setIfInBounds_toArray]); (try simp only [List.set])
                refine wpAnyH_ready (rs := [4]) (by kernel_rfl) (by simp) ?_
                refine AllReadyH.cons (o := _) rfl (fun K hK => ?_) AllReadyH.nil
                go_simp
                refine hK.out _ _ ?_ (fun hHeld2 => ?_)
                · trivial
                clear hK K hHeld1
                (try simp only [Act.put]); (try simp only [List.setIfInBounds_toArray]); (try simp only [List.set])
                refine wpAnyH_take (i := 5) (oi := _) (v := ?_) rfl (by kernel_rfl) (by kernel_rfl) (by kernel_rfl) (fun _ _ _ h => h) (Or.inl ⟨by kernel_rfl, ?_⟩) (by assumption) ?_
                rotate_left
                · intro wH hSw; (try dsimp only at hSw); go_simp <;> with_reducible rfl
                (try simp only [List.getElem_toArray]); (try simp only [List.getElem_cons_succ]); (try simp only [List.getElem_cons_zero]); (try simp only [Act.put]); (try simp only [List.setIfInBounds_toArray]); (try simp only [List.set])
                refine wpAnyH_take (i := 6) (oi := _) (v := ?_) rfl (by kernel_rfl) (by kernel_rfl) (by kernel_rfl) (fun _ _ _ h => h) (Or.inl ⟨by kernel_rfl, ?_⟩) (by assumption) ?_
                rotate_left
                · intro wH hSw; (try dsimp only at hSw); go_simp <;> with_reducible rfl
                (try simp only [List.getElem_toArray]); (try simp only [List.getElem_cons_succ]); (try simp only [List.getElem_cons_zero]); (try simp only [Act.put]); (try simp only [List.setIfInBounds_toArray]); (try simp only [List.set])
                refine wpAnyH_take (i := 7) (oi := _) (v := ?_) rfl (by kernel_rfl) (by kernel_rfl) (by kernel_rfl) (fun _ _ _ h => h) (Or.inl ⟨by kernel_rfl, ?_⟩) (by assumption) ?_
                rotate_left
                · intro wH hSw; (try dsimp only at hSw); go_simp <;> with_reducible rfl
                (try simp only [Act.put]); (try simp only [List.setIfInBounds_toArray]); (try simp only [List.set])
                refine wpAnyH_ready (rs := [8]) (by kernel_rfl) (by simp) ?_
                refine AllReadyH.cons (o := _) rfl (fun K hK => ?_) AllReadyH.nil
                go_simp
                refine hK.out _ _ ?_ (fun hHeld3 => ?_)
                · trivial
                clear hK K hHeld2
                (try simp only [Act.put]); (try simp only [List.setIfInBounds_toArray]); (try simp only [List.set])
                refine wpAnyH_done (by kernel_rfl) ?_ _
                refine NoPanic.normal ?_
                go_wp2_with fail
                go_meet
                exact ⟨drew_grown (grown_set _ _ _ _), set_snap HXB.out ((adj_wrap hcount hs).trans HS2.out.symm)⟩
              · skip
                go_simp
                refine hK.out _ _ ?_ (fun hHeld4 => ?_)
                · trivial
                clear hK K hHeld0
                (try simp only [Act.put]); (try simp only [List.setIfInBounds_toArray]); (try simp only [List.set])
                refine wpAnyH_ready (rs := [1]) (by kernel_rfl) (by simp) ?_
                refine AllReadyH.cons (o := _) rfl (fun K hK => ?_) AllReadyH.nil
                go_simp
                refine (hcn _ (HT1.out.cert.chg (Chg.of_below (J := fun _ => False) (Below.refl _ _)).drew (fun _ h => h.elim))).mono ?_
                rintro e w1 ⟨rfl, rfl⟩
                go_wp2_with fail
                refine hK.out _ _ ?_ (fun hHeld5 => ?_)
                · trivial
                clear hK K hHeld4
                (try simp only [Act.put]); (try simp only [List.setIfInBounds_toArray]); (try simp only [List.set])
                refine wpAnyH_take (i := 2) (oi := _) (v := ?_) rfl (by kernel_rfl) (by kernel_rfl) (by kernel_rfl) (fun _ _ _ h => h) (Or.inl ⟨by kernel_rfl, ?_⟩) (by assumption) ?_
                rotate_left
                · intro wH hSw; (try dsimp only at hSw); go_simp <;> with_reducible rfl
                (try simp only [List.getElem_toArray]); (try simp only [List.getElem_cons_succ]); (try simp only [List.getElem_cons_zero]); (try simp only [Act.put]); (try simp only [List.setIfInBounds_toArray]); (try simp only [List.set])
                refine wpAnyH_take (i := 5) (oi := _) (v := ?_) rfl (by kernel_rfl) (by kernel_rfl) (by kernel_rfl) (fun _ _ _ h => h) (Or.inl ⟨by kernel_rfl, ?_⟩) (by assumption) ?_
                rotate_left
                · intro wH hSw; (try dsimp only at hSw); go_simp <;> with_reducible rfl
                (try simp only [List.getElem_toArray]); (try simp only [List.getElem_cons_succ]); (try simp only [List.getElem_cons_zero]); (try simp only [Act.put]); (try simp only [List.setIfInBounds_toArray]); (try simp only [List.set])
                refine wpAnyH_take (i := 6) (oi := _) (v := ?_) rfl (by kernel_rfl) (by kernel_rfl) (by kernel_rfl) (fun _ _ _ h => h) (Or.inl ⟨by kernel_rfl, ?_⟩) (by assumption) ?_
                rotate_left
                · intro wH hSw; (try dsimp only at hSw); go_simp <;> with_reducible rfl
                (try simp only [List.getElem_toArray]); (try simp only [List.getElem_cons_succ]); (try simp only [List.getElem_cons_zero]); (try simp only [Act.put]); (try simp only [List.setIfInBounds_toArray]); (try simp only [List.set])
                refine wpAnyH_take (i := 7) (oi := _) (v := ?_) rfl (by kernel_rfl) (by kernel_rfl) (by kernel_rfl) (fun _ _ _ h => h) (Or.inl ⟨by kernel_rfl, ?_⟩) (by assumption) ?_
                rotate_left
                · intro wH hSw; (try dsimp only at hSw); go_simp <;> with_reducible rfl
                (try simp only [Act.put]); (try simp only [List.setIfInBounds_toArray]); (try simp only [List.set])
                refine wpAnyH_ready (rs := [8]) (by kernel_rfl) (by simp) ?_
                refine AllReadyH.cons (o := _) rfl (fun K hK => ?_) AllReadyH.nil
                go_simp
                refine hK.out _ _ ?_ (fun hHeld6 => ?_)
                · trivial
                clear hK K hHeld5
                (try simp only [Act.put]); (try simp only [List.setIfInBounds_toArray]); (try simp only [List.set])
                refine wpAnyH_done (by kernel_rfl) ?_ _
                refine NoPanic.normal ?_
                go_wp2_with fail
                go_meet
                exact ⟨drew_grown (grown_set _ _ _ _), set_snap HXB.out ((adj_wrap hcount hs).trans HS2.out.symm)⟩
          case rest =>
            obtain ⟨HG0, HC0⟩ := hcut
            obtain ⟨W, hW⟩ : ∃ W, W = wc := ⟨_, rfl⟩
            rw [← hW] at HG0 HC0
            rw [← hW]
            clear hW
            have HT2 := Lib.hid (HT1.out.loc HC1.out HLX.out HG0)
            have HX2 := Lib.hid HC0
            obtain ⟨SN, hSN⟩ : ∃ SN, SN = adjI c.count x.s.snap := ⟨_, rfl⟩
            rw [← hSN] at HX2
            clear hSN HG0 HC0 HT1 HXB HSN hcount hcn hCC c2
            obtain ⟨c0, c1, c2, c3, c4, c5⟩ := six_cells HX2.out
            have HMS : Hid ((x.snapTo SN).ok w) := HM.out.snapTo SN
            have HD := Lib.hid (decide_any κ' 10 A1 c HT2.out.sim.lok (x.snapTo SN) W HT2.out.cert (HMS.out.below HT2.out.below) (away0 HMS.out HT2.out.old 10 (by decide)))
            go_wp2_with fail
            refine HD.out.mono ?_
            rintro e w5 ⟨κ5, c', code, num, rfl, hc5, hC5, hst⟩
            obtain ⟨e1, e2, e3, e4⟩ := HT2.out.step hc5 hC5
            have hmid : Mid w κ5 A1 w5 c' G ha m cp := ⟨e1, e2, e3, e4⟩
            have hX5 := (hc5.block XB (lt_of_block HX2.out) (by rw [HC1.out]; omega)).trans HX2.out
            obtain ⟨VB, hVB⟩ : ∃ VB, VB = w5.heap.size := ⟨_, rfl⟩
            obtain ⟨V, hV⟩ : ∃ V, V = w5.alloc (.cells #[.int .i64 code, .int .i64 num] 35) := ⟨_, rfl⟩
            have hbV : Below w5.heap.size w5 V := hV ▸ below_alloc (Below.refl _ _) _
            have HVB : Hid (V.heap[VB]? = some (.cells #[.int .i64 code, .int .i64 num] 35 (0, 0))) := hVB ▸ hV ▸ heap_alloc_new w5 _
            have HXV : Hid (V.heap[XB]? = some (.cells #[.int .i64 x.s.session, .int .i64 x.s.seq, .int .i64 SN, .slice x.ra x.s.reads.length x.rc, .slice x.sa x.s.spans.length x.sc, .slice x.wa x.s.writes.length x.wc] 26 (0, 0))) := (hbV.block XB (lt_of_block hX5)).trans hX5
            have HS := Lib.hid (hmid.chg0 (chg_tint (i := 0) hbV))
            obtain ⟨κ6, hκ6⟩ : ∃ κ6, κ6 = tint w5 κ5 0 := ⟨_, rfl⟩
            rw [← hκ6] at HS
            have HV := Lib.hid hV
            have HVE := Lib.hid hVB
            have HST := Lib.hid hst
            have HSIM := Lib.hid HT2.out.sim
            have HGD := Lib.hid HT2.out.good
            have HME := Lib.hid HT2.out.mem
            clear hκ6 hbV hX5 hmid e1 e2 e3 e4 hc5 hC5 hst hV hVB HT2 HX2 c0 c1 c2 c3 c4 c5 HD
            go_upto_region 14 with fail
            rw [← HV.out, ← HVE.out]
            clear HV HVE
            obtain ⟨v0, v1⟩ := two_cells HVB.out
            by_cases hcode : code = 0
            · subst hcode
              obtain ⟨x0, x1, x2, x3, x4, x5⟩ := six_cells HXV.out
              have hws : w.heap.size ≤ V.heap.size := HS.out.below.size
              go_wp2_with (at_builtin; refine wpList_appendD rfl (.tmp 54) (.tmp 59) rfl w.heap.size ha m cp ((G.recs.map doneG).flatMap DoneV.cells) rfl (own_keep HS.out.row.own fun g _ hl => alloc_far rfl hl) (some ⟨V.heap.size, 0, none⟩) 1 1 (DoneV.cells ⟨num, x.snapTo SN⟩) rfl (RowN.newH _ _ _ 7 1 _ _ rfl rfl rfl) (fun h => by cases h) (done_one _) (by omega) (by simp; omega) (m + 1) rfl ?_; intro ao3 cp3 w6 hown6 hg6 hat6)
              obtain ⟨κ7, G2, hone⟩ := HS.out.push HSIM.out HGD.out HME.out HMS.out HST.out hown6 hg6 hat6
              go_roundg (n - (k + 1))
              case measure => omega
              case rel => exact ⟨k + 1, m + 1, cp3, ao3, κ7, _, G2, rfl, by go_num, by omega, by omega, by omega, rfl, hone⟩
            · obtain rfl : c' = c := by
                rcases HST.out.2 with ⟨_, _, h⟩ | ⟨h, _⟩
                · exact h
                · exact absurd h hcode
              have hone : One w κ6 A1 V c' G ha m cp := ⟨HSIM.out, HGD.out, HS.out.cert, HS.out.row, HME.out, HS.out.below, HS.out.old⟩
              have HON := Lib.hid hone
              clear hone
              go_wp2_with fail
              go_roundg (n - (k + 1))
              case measure => omega
              case rel => exact ⟨k + 1, m, cp, ha, κ6, _, G, rfl, by go_num, by omega, by omega, hm64, rfl, HON⟩
      · obtain rfl : k = n := by omega
        go_wp2_with fail
        go_meet
        exact ⟨m, cp, ha, κ, c, G, rfl, hm64, HT⟩
  case rest =>
    obtain ⟨m, cp, ha, κ, c, G, rfl, hm64, HT⟩ := hcut
    obtain ⟨X, hX⟩ : ∃ X, X = wc := ⟨_, rfl⟩
    rw [← hX] at HT
    rw [← hX]
    clear hX HT0
    obtain ⟨H, hH⟩ : ∃ H, H = G.recs.map doneG := ⟨_, rfl⟩
    have hgl : G.recs.length ≤ 64 := by have := HT.out.row.len; rw [List.length_map] at this; omega
    have hmem : ∀ d ∈ H, d.m.ok w := fun d hd => by
      rw [hH] at hd
      obtain ⟨r, hr, rfl⟩ := List.mem_map.1 hd
      exact HT.out.mem r hr
    have hrow' := HT.out.row
    rw [← hH] at hrow'
    have hh : HistAt X ha m cp H := hrow'.hist hmem HT.out.below
    have hr : rightP H = true := hH ▸ HT.out.good.rightP hgl
    have hun : ∀ {order left : List Int}, TopoOut (edgesP H) (H.map DoneV.num) order left → left = [] := fun ht => HT.out.good.unstuck (by rw [← hH]; exact ht)
    have HHI := Lib.hid hh
    have HR := Lib.hid hr
    have HUN : Hid (∀ (order left : List Int), TopoOut (edgesP H) (H.map DoneV.num) order left → left = []) := fun _ _ => hun
    have HRT := Lib.hid (rightP_right (fun d hd => (hmem d hd).words) hr).2
    have HB := Lib.hid HT.out.below
    have HO := Lib.hid (order_any ha m cp H X hh)
    clear hh hr hun hmem hrow' hH hgl HT
    go_wp2_with fail
    refine HO.out.mono ?_
    rintro e w1 ⟨o, ⟨oa, on, oc⟩, ok, rfl, hol, hro, hoc, hoc2, hb1, hcase⟩
    dsimp only [RowV.val]
    simp only at hol hro hoc hoc2
    obtain ⟨rfl, HTO⟩ : ok = true ∧ Hid (TopoOut (edgesP H) (H.map DoneV.num) o []) := by
      rcases hcase with ⟨h1, _, h2⟩ | ⟨_, _, h1 | ⟨order, left, h1, h2⟩⟩
      · exact ⟨h1, h2⟩
      · rw [HR.out] at h1; cases h1
      · exact absurd (HUN.out _ _ h2) h1
    have hrd := serialReads_any ha m cp H HR.out oa on oc o hol
    have hp : o.Perm (H.map DoneV.num) := by have := HTO.out.perm; rwa [List.append_nil] at this
    have hlaw : ∀ key, KeyOk key → ∀ (k : Nat) (x : Int) (d : DoneV), o[k]? = some x → H[(x - 1).toNat]? = some d → readsP d.m.s key = true → lastP H key (o.take k) = verP H key d.m.s.snap := fun key hkey k x d h1 h2 h3 => reads_law HR.out HRT.out hp HTO.out.ordered key hkey k x d h1 h2 h3
    have HRD := Lib.hid (fun W (hb : Below w1.heap.size w1 W) => hrd W ((HHI.out.below hb1).below hb) (hro.below hb) hp hlaw)
    have HRI := Lib.hid (right_any ha m cp H w1 (HHI.out.below hb1))
    have HSK := Lib.hid (fun W (hb : Below w1.heap.size w1 W) => stuck_any ha m cp H W ((HHI.out.below hb1).below hb))
    have HB1 := Lib.hid (below_then HB.out hb1)
    rw [HR.out] at HRI
    clear hol hro hb1 hcase hrd hp hlaw HO
    go_wp2_with fail
    refine HRI.out.mono ?_
    rintro e w2 ⟨rfl, hb2⟩
    have HB2 := Lib.hid hb2
    clear hb2
    go_wp2_with fail
    refine (HRD.out _ HB2.out).mono ?_
    rintro e w3 ⟨rfl, hb3⟩
    have HB3 := Lib.hid (below_then HB2.out hb3)
    clear hb3
    go_wp2_with fail
    refine (HSK.out _ HB3.out).mono ?_
    rintro e w4 ⟨order, left, ⟨la, ln, lc⟩, rfl, hl4, hr4, hb4, hif⟩
    rw [HR.out, if_pos rfl] at hif
    have hle := HUN.out _ _ hif
    subst hle
    obtain rfl : ln = 0 := hl4.symm
    dsimp only [RowV.val]
    have HB4 := Lib.hid (below_then HB1.out (below_then HB3.out hb4))
    clear hl4 hr4 hb4 hif
    go_wp2_with fail
    go_ret
    exact ⟨rfl, HB4.out⟩
end Go.Proofs.YtpknmfmpiachkaaGreat
