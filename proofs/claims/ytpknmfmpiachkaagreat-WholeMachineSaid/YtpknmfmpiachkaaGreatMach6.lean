/- WholeMachine: the walk. -/
import Derived.Test.YtpknmfmpiachkaaGreatMach5
import Derived.Test.YtpknmfmpiachkaaGreatRds
import Derived.Deep.CutBlock
import Derived.Deep.LoopGhost
namespace Go.Proofs.YtpknmfmpiachkaaGreat
open Go.RowKit Go.Maps
def SubM.setTo (m : SubM) (se sq sn : Int) : SubM := { m with s := { m.s with session := se, seq := sq, snap := sn } }
theorem SubM.ok.setTo {w : World} {m : SubM} (h : m.ok w) (se sq sn : Int) : (m.setTo se sq sn).ok w := ⟨⟨h.words.reads, h.words.spans, h.words.writes⟩, h.reads, h.spans, h.writes, h.lr, h.ls, h.lw⟩
def Inv (w : World) (κ : Nat → Nat) (A C T : Nat) (wx : World) (cnt i : Nat) (ha : Option Addr) (hn hc : Nat) (ga : Option Addr) (gc : Nat) (ka : Option Addr) (kc kn : Nat) : Prop :=
 ∃ (c G : CertV) (M : Nat) (D : DataW Unit) (f : Int → Option (Nat × SV)) (hs : List DoneV) (gs : List (Option Addr × Nat × Nat)) (kept : List SubM), Mem w κ A C T wx cnt c M D f ha hn hc hs ga kn gc gs (kept.map SubM.s) ka kn kc kept ∧ Pl w c G f hs kept i
theorem sub_one (m : SubM) : ∀ u ∈ m.row, u.oneCell' = true := fun u hu => by
 unfold SubM.row at hu
 simp only [List.mem_cons, List.not_mem_nil, or_false] at hu
 rcases hu with rfl | rfl | rfl | rfl | rfl | rfl <;> rfl
theorem arow_at {w wx : World} {κ : Nat → Nat} {aa : Option Addr} {an ac : Nat} {xs : List Nat} (h : ARow w κ wx aa an ac xs) (j : Nat) (hj : j < an) {y : Nat} (hy : xs[j]? = some y) : ∃ b off, aa = some ⟨b, off, none⟩ ∧ wx.cell? ⟨b, off + j, none⟩ = some (.int .i64 (y : Nat)) := by
 obtain ⟨b, off, ha, hc⟩ := (RowN.of_own h.own).2 (by omega)
 exact ⟨b, off, ha, hc j _ (by rw [List.getElem?_map, hy]; rfl)⟩
theorem grow_at {w wx : World} {κ : Nat → Nat} {ga : Option Addr} {gn gc : Nat} {gs : List (Option Addr × Nat × Nat)} {ss : List SubP} (h : GRow w κ wx ga gn gc gs ss) (y : Nat) (hy : y < gn) {q : Option Addr × Nat × Nat} (hq : gs[y]? = some q) : ∃ b off, ga = some ⟨b, off, none⟩ ∧ wx.cell? ⟨b, off + y, none⟩ = some (.slice q.1 q.2.1 q.2.2) := by
 obtain ⟨b, off, ha, hc⟩ := (RowN.of_own h.own).2 (by omega)
 exact ⟨b, off, ha, hc y _ (by rw [List.getElem?_map, hq]; rfl)⟩
theorem five_grown (w : World) (B : Nat) (v0 v1 v2 v3 v4 : Value) : w.grownBy (((((w.setCell ⟨B, 0, none⟩ v0).setCell ⟨B, 1, none⟩ v1).setCell ⟨B, 2, none⟩ v2).setCell ⟨B, 3, none⟩ v3).setCell ⟨B, 4, none⟩ v4) (some B) :=
 ((((grown_set w B 0 v0).trans (grown_set _ B 1 v1)).trans (grown_set _ B 2 v2)).trans (grown_set _ B 3 v3)).trans (grown_set _ B 4 v4)
theorem mem_start {w w2 Y1 Y2 Y3 : World} {κ1 : Nat → Nat} {A C T M : Nat} {c : CertV} {H0 H1 H2 : Nat} (hM : MachAt w2 κ1 A C T 0 c 0 M (.map []) (fun _ => none)) (hb : Below w.heap.size w w2) (hold : ∀ g, g < w.heap.size → κ1 g = 0)
 (hH0 : H0 = w2.heap.size) (hY1 : Y1 = w2.alloc (.cells #[] 40)) (hH1 : H1 = Y1.heap.size) (hY2 : Y2 = Y1.alloc (.cells #[] 53)) (hH2 : H2 = Y2.heap.size) (hY3 : Y3 = Y2.alloc (.cells #[] 26)) :
 ∃ κ, Mem w κ A C T Y3 0 c M (.map []) (fun _ => none) (some ⟨H0, 0, none⟩) 0 0 [] (some ⟨H1, 0, none⟩) 0 0 [] [] (some ⟨H2, 0, none⟩) 0 0 [] := by
 have hb1 : Below w2.heap.size w2 Y1 := hY1 ▸ below_alloc (Below.refl _ _) _
 have hb2 : Below Y1.heap.size Y1 Y2 := hY2 ▸ below_alloc (Below.refl _ _) _
 have hb3 : Below Y2.heap.size Y2 Y3 := hY3 ▸ below_alloc (Below.refl _ _) _
 have h01 : H1 = H0 + 1 := by rw [hH1, hY1, World.size_alloc, hH0]
 have h12 : H2 = H1 + 1 := by rw [hH2, hY2, World.size_alloc, hH1]
 have hB := below_then (below_then hb1 hb2) hb3
 obtain ⟨κ, hκ⟩ : ∃ κ : Nat → Nat, κ = fun g => if g < H0 then κ1 g else if g = H0 then 30 else if g = H1 then 31 else 33 := ⟨_, rfl⟩
 have hp : ∀ g, g < w2.heap.size → κ g = κ1 g := fun g h => by rw [hκ]; exact if_pos (by omega)
 have hc : Chg (fun _ => False) κ1 κ w2 Y3 := ⟨hB.os, hB.tape, hB.output, hB.size, hp, fun g hg _ => hB.block g hg⟩
 have hs := hb.size
 have k0 : κ H0 = 30 := by rw [hκ]; show (if H0 < H0 then _ else if H0 = H0 then _ else _) = _; rw [if_neg (by omega), if_pos rfl]
 have k1 : κ H1 = 31 := by rw [hκ]; show (if H1 < H0 then _ else if H1 = H0 then _ else if H1 = H1 then _ else _) = _; rw [if_neg (by omega), if_neg (by omega), if_pos rfl]
 have k2 : κ H2 = 33 := by rw [hκ]; show (if H2 < H0 then _ else if H2 = H0 then _ else if H2 = H1 then _ else _) = _; rw [if_neg (by omega), if_neg (by omega), if_neg (by omega)]
 have col : ∀ (H i : Nat), κ H = i → ∀ g, (Value.slice (some ⟨H, 0, none⟩) 0 0).ownBlock = some g → κ g = i := fun H i h g hg => by
  have : H = g := Option.some.inj hg
  rw [← this]; exact h
 have o1 : Y3.ownsRow w.heap.size 40 7 (.slice (some ⟨H0, 0, none⟩) 0 0) 0 [] :=
  own_keep (hH0 ▸ hY1 ▸ World.ownsRow_made w2 #[] 0 hs (by decide) rfl) fun g _ hl => (below_then hb2 hb3).block g hl
 have o2 : Y3.ownsRow w.heap.size 53 1 (.slice (some ⟨H1, 0, none⟩) 0 0) 0 [] :=
  own_keep (hH1 ▸ hY2 ▸ World.ownsRow_made Y1 #[] 0 (Nat.le_trans hs hb1.size) (by decide) rfl) fun g _ hl => hb3.block g hl
 have o3 : Y3.ownsRow w.heap.size 26 6 (.slice (some ⟨H2, 0, none⟩) 0 0) 0 [] :=
  hH2 ▸ hY3 ▸ World.ownsRow_made Y2 #[] 0 (Nat.le_trans hs (Nat.le_trans hb1.size hb2.size)) (by decide) rfl
 exact ⟨κ, hM.chg hc (fun _ h => h.elim), ⟨rfl, o1, col _ _ k0⟩, ⟨rfl, rfl, o2, col _ _ k1, (fun k q s h => by simp at h), fun q h => absurd h List.not_mem_nil⟩, ⟨rfl, o3, col _ _ k2⟩, below_then hb hB, fun g hg => (hp g (Nat.lt_of_lt_of_le hg hs)).trans (hold g hg)⟩
theorem pl_start (w : World) (keep old : Int) : Pl w (newP keep old) (newP 32 64) (fun _ => none) [] [] 0 :=
 ⟨newSim2 keep old, Good.nil, rfl, (fun _ h => absurd h List.not_mem_nil), List.Pairwise.nil, (fun _ h => absurd h List.not_mem_nil), (fun _ h => absurd h List.not_mem_nil), (fun _ h => absurd h List.not_mem_nil), (fun _ h => absurd h List.not_mem_nil), List.Pairwise.nil⟩
set_option maxRecDepth 100000 in
set_option maxHeartbeats 25600000 in
theorem wholeMachine_any (keep old : Int) (a : Option Addr) (n cap : Nat) (subs : List SubM) (ta : Option Addr) (tn tc : Nat) (zs : List Int) (w : World) (_ : (Lit.int .i64 keep).wf = true) (_ : (Lit.int .i64 old).wf = true) (hrow : RowN w a 6 n (subs.flatMap SubM.row)) (hl : subs.length = n) (hn : n ≤ 9223372036854775807) (hok : ∀ m ∈ subs, m.ok w)
 (htw : RowN w ta 1 tn (cellsI zs)) (htc : tn ≤ tc) (htm : tc ≤ maxLen) (_ : ta = none → tc = 0) :
 Calls Tryz.prog 5 #[.int .i64 keep, .int .i64 old, .slice a n cap, .slice ta tn tc] w (RetBox w (.bool true)) := by
 have HROW := Lib.hid hrow
 have HLEN := Lib.hid hl
 have HOK := Lib.hid hok
 have HTW := Lib.hid htw
 have htn : tn ≤ 9223372036854775807 := by unfold maxLen at htm; omega
 have HN1 := Lib.hid (fun κ W => machNew_any κ keep old W)
 have HSO := Lib.hid soundMachine_any
 clear hrow hl hok htw htc htm
 go_enter Tryz.func5, Tryz.ntmps5
 go_wp2_with fail
 refine (HSO.out _).mono ?_
 rintro e w1 ⟨rfl, hb1⟩
 have HB1 := Lib.hid hb1
 clear hb1 HSO
 go_wp2_with fail
 refine (HN1.out (fun _ => 0) _).mono ?_
 rintro e w2 ⟨A, C, T, M0, κ1, rfl, hA, hb2, hκ1, hM1⟩
 obtain ⟨H0, hH0⟩ : ∃ H0, H0 = w2.heap.size := ⟨_, rfl⟩
 obtain ⟨Y1, hY1⟩ : ∃ Y1, Y1 = w2.alloc (.cells #[] 40) := ⟨_, rfl⟩
 obtain ⟨H1, hH1⟩ : ∃ H1, H1 = Y1.heap.size := ⟨_, rfl⟩
 obtain ⟨Y2, hY2⟩ : ∃ Y2, Y2 = Y1.alloc (.cells #[] 53) := ⟨_, rfl⟩
 obtain ⟨H2, hH2⟩ : ∃ H2, H2 = Y2.heap.size := ⟨_, rfl⟩
 obtain ⟨Y3, hY3⟩ : ∃ Y3, Y3 = Y2.alloc (.cells #[] 26) := ⟨_, rfl⟩
 obtain ⟨κ0, hmem0⟩ := mem_start hM1 (below_then HB1.out hb2) (fun g hg => hκ1 g (Nat.lt_of_lt_of_le hg HB1.out.size)) hH0 hY1 hH1 hY2 hH2 hY3
 have HI0 : Hid (Inv w κ0 A C T Y3 0 0 (some ⟨H0, 0, none⟩) 0 0 (some ⟨H1, 0, none⟩) 0 (some ⟨H2, 0, none⟩) 0 0) := ⟨_, _, _, _, _, _, _, _, hmem0, pl_start w keep old⟩
 have E1 := Lib.hid hY1
 have E2 := Lib.hid hY2
 have E3 := Lib.hid hY3
 have F0 := Lib.hid hH0
 have F1 := Lib.hid hH1
 have F2 := Lib.hid hH2
 clear hA hb2 hκ1 hM1 hmem0 hY1 hY2 hY3 hH0 hH1 hH2 HN1 HB1
 go_upto_region 7 with fail
 rw [← F0.out, ← E1.out]
 clear F0 E1
 go_upto_region 8 with fail
 rw [← F1.out, ← E2.out]
 clear F1 E2
 go_upto_block 0 with fail
 rw [← F2.out, ← E3.out]
 clear F2 E3
 go_cut [10] (fun s10 wx => ∃ (cnt i hn hc gc kc kn : Nat) (ha ga ka : Option Addr) (κ : Nat → Nat), s10 = .slice ha hn hc ∧ i ≤ 60 ∧ Hid (Inv w κ A C T wx cnt i ha hn hc ga gc ka kc kn))
 case first =>
  go_wp2_with fail
  go_loopg [10, 11, 12, 37] n (fun g s10 s11 s12 s37 wx => ∃ (k cnt hn hc gc kc kn : Nat) (ha ga ka : Option Addr) (κ : Nat → Nat), s10 = .slice ha hn hc ∧ s11 = .slice ga kn gc ∧ s12 = .slice ka kn kc ∧ s37 = .int .i64 k ∧ k ≤ n ∧ k ≤ 60 ∧ cnt ≤ 2 * k ∧ kn ≤ k ∧ g = n - k ∧ Hid (Inv w κ A C T wx cnt k ha hn hc ga gc ka kc kn))
  case atStart => exact ⟨0, 0, 0, 0, 0, 0, 0, _, _, _, κ0, rfl, rfl, rfl, rfl, Nat.zero_le _, Nat.zero_le _, Nat.zero_le _, Nat.zero_le _, rfl, HI0⟩
  case round =>
   obtain ⟨k, cnt, hn1, hc1, gc, kc, kn, ha, ga, ka, κ, rfl, rfl, rfl, rfl, hk, hk60, hcnt, hkn, rfl, HI⟩ := hrel
   clear HI0
   obtain ⟨c, G, M, D, f, hs, gs, kept, hmem, hpl⟩ := HI.out
   have hk0 : (0 : Int) ≤ (k : Int) := by omega
   have hnat : ((k : Int)).toNat = k := by omega
   by_cases hlt : k < n
   · obtain ⟨x, hx⟩ : ∃ x, subs[k]? = some x := ⟨_, List.getElem?_eq_getElem (by rw [HLEN.out]; exact hlt)⟩
     have HM := Lib.hid (HOK.out x (List.mem_of_getElem? hx))
     obtain ⟨b, off, rfl, q0, q1, q2, q3, q4, q5⟩ := sub_at (HROW.out.below hmem.below) HLEN.out k hlt x hx
     have hknn : (k : Int) < (n : Int) := by omega
     obtain ⟨XB, hXB⟩ : ∃ XB, XB = wr.heap.size := ⟨_, rfl⟩
     obtain ⟨X, hX⟩ : ∃ X, X = wr.alloc (.cells #[.int .i64 x.s.session, .int .i64 x.s.seq, .int .i64 x.s.snap, .slice x.ra x.s.reads.length x.rc, .slice x.sa x.s.spans.length x.sc, .slice x.wa x.s.writes.length x.wc] 26) := ⟨_, rfl⟩
     have hbX : Below wr.heap.size wr X := hX ▸ below_alloc (Below.refl _ _) _
     have HXB : Hid (X.heap[XB]? = some (.cells #[.int .i64 x.s.session, .int .i64 x.s.seq, .int .i64 x.s.snap, .slice x.ra x.s.reads.length x.rc, .slice x.sa x.s.spans.length x.sc, .slice x.wa x.s.writes.length x.wc] 26 (0, 0))) := hXB ▸ hX ▸ heap_alloc_new wr _
     have HM1 := Lib.hid (hmem.chg (chg_tint (κ := κ) (i := 1) hbX) (fun _ h => h.elim))
     have HC1 : Hid (tint wr κ 1 XB = 1) := tint_new (by omega)
     obtain ⟨κ', hκ'⟩ : ∃ κ', κ' = tint wr κ 1 := ⟨_, rfl⟩
     rw [← hκ'] at HM1 HC1
     have HPL := Lib.hid hpl
     have HX := Lib.hid hX
     have HXE := Lib.hid hXB
     clear hκ' hbX hx hX hXB hmem hpl HI
     go_upto_region 12 with fail
     rw [← HX.out, ← HXE.out]
     clear HX HXE q0 q1 q2 q3 q4 q5
     by_cases h60 : 60 ≤ k
     · have hk60' : (60 : Int) ≤ (k : Int) := by omega
       go_wp2_with fail
       go_meet
       exact ⟨cnt, k, hn1, hc1, gc, kc, kn, ha, ga, ka, κ', rfl, hk60, c, G, M, D, f, hs, gs, kept, HM1.out, HPL.out⟩
     have hk60' : ¬ (60 : Int) ≤ (k : Int) := by omega
     go_upto_region 13 with fail
     have hcount := HPL.out.sim.lok.count
     have HCN := Lib.hid (fun W (hb : Below X.heap.size X W) => machCount_any κ' A C T (cnt : Nat) c cnt M D f W (HM1.out.sub hb).mach)
     have HBK := Lib.hid (fun W => back_any x c.count hcount W)
     go_cut [] (fun wy => Hid (Mem w κ' A C T wy cnt c M D f ha hn1 hc1 hs ga kn gc gs (kept.map SubM.s) ka kn kc kept) ∧ Hid (wy.heap[XB]? = some (.cells #[.int .i64 x.s.session, .int .i64 x.s.seq, .int .i64 (adjI c.count x.s.snap), .slice x.ra x.s.reads.length x.rc, .slice x.sa x.s.spans.length x.sc, .slice x.wa x.s.writes.length x.wc] 26 (0, 0))))
     case first =>
      obtain ⟨c0, c1, c2, c3, c4, c5⟩ := six_cells HXB.out
      refine wp_region_noPanic ?_
      refine wp_region_held_drew (S := (fun _ => True)) (by kernel_rfl) ?_ (fun hHeld0 => ?_)
      · trivial
      refine wu 1 rfl ?_
      refine wz 0 2 rfl (fun K hK => ?_) rfl fun K hK => ?_
      · skip
        go_simp
        refine hK.out _ _ ?_ (fun hHeld1 => ?_)
        · trivial
        clear hK K hHeld0
        (try simp only [Act.put]); (try simp only [List.setIfInBounds_toArray]); (try simp only [List.set])
        refine wy 2 rfl fun K hK => ?_
        go_simp
        refine (HCN.out _ (Below.refl _ _).drew).mono ?_
        rintro e w4 ⟨rfl, rfl⟩
        go_wp2_with fail
        refine hK.out _ _ ?_ (fun hHeld2 => ?_)
        · trivial
        clear hK K hHeld1
        (try simp only [Act.put]); (try simp only [List.setIfInBounds_toArray]); (try simp only [List.set])
        refine wy 3 rfl fun K hK => ?_
        go_simp
        refine (HBK.out _).mono ?_
        rintro e w5 ⟨he, hb5⟩
        rw [show (x.snapTo (adjI c.count x.s.snap)).args = Value.agg #[.int .i64 x.s.session, .int .i64 x.s.seq, .int .i64 (adjI c.count x.s.snap), .slice x.ra x.s.reads.length x.rc, .slice x.sa x.s.spans.length x.sc, .slice x.wa x.s.writes.length x.wc] from rfl] at he
        subst he
        have hb5' : Below X.heap.size X w5 := below_then (Below.refl X.heap.size X).drew hb5
        have hX5 := (hb5'.block XB (lt_of_block HXB.out)).trans HXB.out
        obtain ⟨d0, d1, d2, d3, d4, d5⟩ := six_cells hX5
        obtain ⟨g0, g1, g2, g3, g4, g5⟩ := six_frz hX5
        go_wp2_with fail
        refine hK.out _ _ ?_ (fun hHeld3 => ?_)
        · trivial
        clear hK K hHeld2
        (try simp only [Act.put]); (try simp only [List.setIfInBounds_toArray]); (try simp only [List.set])
        refine wy 4 rfl fun K hK => ?_
        go_simp
        refine hK.out _ _ ?_ (fun hHeld4 => ?_)
        · trivial
        clear hK K hHeld3
        (try simp only [Act.put]); (try simp only [List.setIfInBounds_toArray]); (try simp only [List.set])
        refine wpAnyH_done (by kernel_rfl) ?_ _
        refine NoPanic.normal ?_
        have hs6 := six_set hX5 (.int .i64 x.s.session) (.int .i64 x.s.seq) (.int .i64 (adjI c.count x.s.snap)) (.slice x.ra x.s.reads.length x.rc) (.slice x.sa x.s.spans.length x.sc) (.slice x.wa x.s.writes.length x.wc)
        have HR := Lib.hid hs6.1
        have HRM := Lib.hid ((HM1.out.sub hb5').chg (Chg.of_grown (J := (· = 1)) hs6.2 HC1.out) (fun i hi => .inl hi))
        go_wp2_with fail
        go_meet
        exact ⟨HRM, HR⟩
      · skip
        go_simp
        refine (HCN.out _ (Below.refl _ _).drew).mono ?_
        rintro e w4 ⟨rfl, rfl⟩
        go_wp2_with fail
        refine hK.out _ _ ?_ (fun hHeld5 => ?_)
        · trivial
        clear hK K hHeld0
        (try simp only [Act.put]); (try simp only [List.setIfInBounds_toArray]); (try simp only [List.set])
        refine wy 0 rfl fun K hK => ?_
        go_simp
        refine hK.out _ _ ?_ (fun hHeld6 => ?_)
        · trivial
        clear hK K hHeld5
        (try simp only [Act.put]); (try simp only [List.setIfInBounds_toArray]); (try simp only [List.set])
        refine wy 3 rfl fun K hK => ?_
        go_simp
        refine (HBK.out _).mono ?_
        rintro e w5 ⟨he, hb5⟩
        rw [show (x.snapTo (adjI c.count x.s.snap)).args = Value.agg #[.int .i64 x.s.session, .int .i64 x.s.seq, .int .i64 (adjI c.count x.s.snap), .slice x.ra x.s.reads.length x.rc, .slice x.sa x.s.spans.length x.sc, .slice x.wa x.s.writes.length x.wc] from rfl] at he
        subst he
        have hb5' : Below X.heap.size X w5 := below_then (Below.refl X.heap.size X).drew hb5
        have hX5 := (hb5'.block XB (lt_of_block HXB.out)).trans HXB.out
        obtain ⟨d0, d1, d2, d3, d4, d5⟩ := six_cells hX5
        obtain ⟨g0, g1, g2, g3, g4, g5⟩ := six_frz hX5
        go_wp2_with fail
        refine hK.out _ _ ?_ (fun hHeld7 => ?_)
        · trivial
        clear hK K hHeld6
        (try simp only [Act.put]); (try simp only [List.setIfInBounds_toArray]); (try simp only [List.set])
        refine wy 4 rfl fun K hK => ?_
        go_simp
        refine hK.out _ _ ?_ (fun hHeld8 => ?_)
        · trivial
        clear hK K hHeld7
        (try simp only [Act.put]); (try simp only [List.setIfInBounds_toArray]); (try simp only [List.set])
        refine wpAnyH_done (by kernel_rfl) ?_ _
        refine NoPanic.normal ?_
        have hs6 := six_set hX5 (.int .i64 x.s.session) (.int .i64 x.s.seq) (.int .i64 (adjI c.count x.s.snap)) (.slice x.ra x.s.reads.length x.rc) (.slice x.sa x.s.spans.length x.sc) (.slice x.wa x.s.writes.length x.wc)
        have HR := Lib.hid hs6.1
        have HRM := Lib.hid ((HM1.out.sub hb5').chg (Chg.of_grown (J := (· = 1)) hs6.2 HC1.out) (fun i hi => .inl hi))
        go_wp2_with fail
        go_meet
        exact ⟨HRM, HR⟩
     case rest =>
      obtain ⟨HM2, HX2⟩ := hcut
      obtain ⟨W, hW⟩ : ∃ W, W = wc := ⟨_, rfl⟩
      rw [← hW] at HM2 HX2
      rw [← hW]
      clear hW HM1 HXB HCN HBK hcount
      obtain ⟨SN, hSN⟩ : ∃ SN, SN = adjI c.count x.s.snap := ⟨_, rfl⟩
      rw [← hSN] at HX2
      clear hSN
      have hand := and_range x.s.session 3 (by omega)
      obtain ⟨c0, c1, c2, c3, c4, c5⟩ := six_cells HX2.out
      obtain ⟨r0, r1, _⟩ := six_frz HX2.out
      obtain ⟨W2, hW2⟩ : ∃ W2, W2 = (W.setCell ⟨XB, 0, none⟩ (.int .i64 (1 + bits .and .i64 x.s.session 3))).setCell ⟨XB, 1, none⟩ (.int .i64 ((k : Int) + 1)) := ⟨_, rfl⟩
      have hX3 : W2.heap[XB]? = some (.cells #[.int .i64 (1 + bits .and .i64 x.s.session 3), .int .i64 ((k : Int) + 1), .int .i64 SN, .slice x.ra x.s.reads.length x.rc, .slice x.sa x.s.spans.length x.sc, .slice x.wa x.s.writes.length x.wc] 26 (0, 0)) := hW2 ▸ set_block (i := 1) (set_block (i := 0) HX2.out _) _
      have hM3 : Mem w κ' A C T W2 cnt c M D f ha hn1 hc1 hs ga kn gc gs (kept.map SubM.s) ka kn kc kept := HM2.out.chg (Chg.of_grown (J := (· = 1)) (hW2 ▸ (grown_set W XB 0 _).trans (grown_set _ XB 1 _)) HC1.out) (fun i hi => .inl hi)
      have HW2 := Lib.hid hW2
      clear hW2
      go_upto_region 16 with fail
      rw [← HW2.out]
      clear HW2 c0 c1 c2 c3 c4 c5 r0 r1
      obtain ⟨SE, hSE⟩ : ∃ SE, SE = 1 + bits .and .i64 x.s.session 3 := ⟨_, rfl⟩
      have hSEr : 1 ≤ SE ∧ SE ≤ 4 := by omega
      rw [← hSE] at hX3
      have HX3 := Lib.hid hX3
      have HM3 := Lib.hid hM3
      clear hSE hand hX3 hM3 HM2 HX2
      obtain ⟨c0, c1, c2, c3, c4, c5⟩ := six_cells HX3.out
      have HMW : Hid ((x.setTo SE ((k : Int) + 1) SN).ok w) := HM.out.setTo _ _ _
      by_cases hck : checkP (x.setTo SE ((k : Int) + 1) SN).s = 0
      case neg =>
       have hen := encode_no (x.setTo SE ((k : Int) + 1) SN) W2 (HMW.out.below HM3.out.below) hck
       obtain ⟨E, hE⟩ : ∃ E, E = checkP (x.setTo SE ((k : Int) + 1) SN).s := ⟨_, rfl⟩
       rw [← hE] at hen hck
       have HEN := Lib.hid hen
       have hne : (E != 0) = true := by simpa using hck
       clear hen hE
       go_wp2_with fail
       refine HEN.out.mono ?_
       rintro e w3 ⟨rfl, hb3⟩
       have HM4 := Lib.hid (HM3.out.sub hb3)
       clear hb3 HM3 HX3 HEN c0 c1 c2 c3 c4 c5
       go_wp2_with fail
       go_roundg (n - (k + 1))
       case measure => omega
       case rel => exact ⟨k + 1, cnt, hn1, hc1, gc, kc, kn, ha, ga, ka, κ', rfl, rfl, rfl, by go_num, by omega, by omega, by omega, by omega, rfl, c, G, M, D, f, hs, gs, kept, HM4.out, HPL.out.idle⟩
      case pos =>
      have HPK := Lib.hid (HPL.out.keep (x.setTo SE ((k : Int) + 1) SN) HMW.out hck hSEr rfl)
      obtain ⟨N, hN⟩ : ∃ N, N = (subBytes (x.setTo SE ((k : Int) + 1) SN).s).length := ⟨_, rfl⟩
      have HEN := Lib.hid (encode_ok (x.setTo SE ((k : Int) + 1) SN) W2 (HMW.out.below HM3.out.below) hck N hN)
      clear hN hck HPL
      go_wp2_with fail
      refine HEN.out.mono ?_
      rintro e w3 ⟨ao, bc, rfl, hown, hb3⟩
      have hc3 := chg_tint (κ := κ') (i := 32) hb3
      have hX4 : w3.heap[XB]? = some (.cells #[.int .i64 SE, .int .i64 ((k : Int) + 1), .int .i64 SN, .slice x.ra x.s.reads.length x.rc, .slice x.sa x.s.spans.length x.sc, .slice x.wa x.s.writes.length x.wc] 26 (0, 0)) := (hb3.block XB (lt_of_block HX3.out)).trans HX3.out
      have hC4 : tint W2 κ' 32 XB = 1 := (tint_old (lt_of_block HX3.out)).trans HC1.out
      have hcB : ∀ g, (gval (ao, N, bc)).ownBlock = some g → tint W2 κ' 32 g = 32 := fun g hg => tint_new (World.ownsRow.lt hown g hg).1
      have hoB : w3.ownsRow w.heap.size 5 1 (gval (ao, N, bc)) N (cells8 (subBytes (x.setTo SE ((k : Int) + 1) SN).s)) := Own8.more hown HM3.out.below.size
      have hM4 := HM3.out.chg hc3 (fun _ h => h.elim)
      obtain ⟨κ3, hκ3⟩ : ∃ κ3, κ3 = tint W2 κ' 32 := ⟨_, rfl⟩
      rw [← hκ3] at hC4 hcB hM4
      clear hκ3 hc3 hown hb3 HM3 HX3 HEN c0 c1 c2 c3 c4 c5
      -- given
      have hbZ : Below w3.heap.size w3 (w3.alloc (.cells #[.slice ao N bc] 53)) := below_alloc (Below.refl _ _) _
      have hcZ := chg_tint (κ := κ3) (i := 1) hbZ
      have HMZ := Lib.hid (hM4.chg hcZ (fun _ h => h.elim))
      have HXZ : Hid ((w3.alloc (.cells #[.slice ao N bc] 53)).heap[XB]? = some (.cells #[.int .i64 SE, .int .i64 ((k : Int) + 1), .int .i64 SN, .slice x.ra x.s.reads.length x.rc, .slice x.sa x.s.spans.length x.sc, .slice x.wa x.s.writes.length x.wc] 26 (0, 0))) := (hbZ.block XB (lt_of_block hX4)).trans hX4
      have HCZ : Hid (tint w3 κ3 1 XB = 1) := (tint_old (lt_of_block hX4)).trans hC4
      have HOB : Hid ((w3.alloc (.cells #[.slice ao N bc] 53)).ownsRow w.heap.size 5 1 (gval (ao, N, bc)) N (cells8 (subBytes (x.setTo SE ((k : Int) + 1) SN).s))) := own_keep hoB fun g _ hl => hbZ.block g hl
      have HCB : Hid (∀ g, (gval (ao, N, bc)).ownBlock = some g → tint w3 κ3 1 g = 32) := fun g hg => (tint_old (hoB.lt g hg).2).trans (hcB g hg)
      obtain ⟨κ4, hκ4⟩ : ∃ κ4, κ4 = tint w3 κ3 1 := ⟨_, rfl⟩
      rw [← hκ4] at HMZ HCZ HCB
      have hsz3 : w.heap.size ≤ w3.heap.size := hM4.below.size
      clear hκ4 hbZ hcZ hX4 hC4 hcB hoB hM4
      go_upto_region 19 with (at_builtin; refine wpList_appendG rfl (.tmp 63) (.tmp 65) 51 53 info_bsm Tryz.underlying51 rfl (by decide) (by decide) rfl w.heap.size ga kn gc (gs.map gval) rfl HMZ.out.g.own (some ⟨w3.heap.size, 0, none⟩) 1 1 [gval (ao, N, bc)] rfl (RowN.newH _ _ _ 1 1 _ _ rfl rfl rfl) (fun h => by cases h) (fun u hu => by rw [List.mem_singleton.1 hu]; rfl) (by omega) (by simp; omega) (kn + 1) rfl ?_; intro ga2 gc2 w4 hown4 hg4 hat4)
      obtain ⟨κ5, hc5, hM5⟩ := HMZ.out.pushG HOB.out HCB.out hown4 hg4 hat4
      have hX5 := (hc5.block XB (lt_of_block HXZ.out) (by rw [HCZ.out]; omega)).trans HXZ.out
      have hC5 := (hc5.paint XB (lt_of_block HXZ.out)).trans HCZ.out
      clear hc5 hown4 hg4 hat4 HMZ HXZ HCZ HOB HCB hsz3
      -- kept
      obtain ⟨c0, c1, c2, c3, c4, c5⟩ := six_cells hX5
      have hbZ : Below w4.heap.size w4 (w4.alloc (.cells #[.int .i64 SE, .int .i64 ((k : Int) + 1), .int .i64 SN, .slice x.ra x.s.reads.length x.rc, .slice x.sa x.s.spans.length x.sc, .slice x.wa x.s.writes.length x.wc] 26)) := below_alloc (Below.refl _ _) _
      have HMZ := Lib.hid (hM5.chg (chg_tint (κ := κ5) (i := 1) hbZ) (fun _ h => h.elim))
      have hsz4 : w.heap.size ≤ w4.heap.size := hM5.below.size
      clear hX5 hC5 hM5 hbZ
      go_upto_region 20 with (at_builtin; refine wpList_appendG rfl (.tmp 67) (.tmp 69) 22 26 info_subm Tryz.underlying22 rfl (by decide) (by decide) rfl w.heap.size ka kn kc (kept.flatMap SubM.row) rfl HMZ.out.k.own (some ⟨w4.heap.size, 0, none⟩) 1 1 (x.setTo SE ((k : Int) + 1) SN).row rfl (RowN.newH _ _ _ 6 1 _ _ rfl rfl rfl) (fun h => by cases h) (sub_one _) (by omega) (by simp; omega) (kn + 1) rfl ?_; intro ka2 kc2 w5 hown5 hg5 hat5)
      obtain ⟨κ7, _, hM7⟩ := HMZ.out.pushK hown5 hg5 hat5
      have hss : kept.map SubM.s ++ [(x.setTo SE ((k : Int) + 1) SN).s] = (kept ++ [x.setTo SE ((k : Int) + 1) SN]).map SubM.s := by rw [List.map_append]; rfl
      rw [hss] at hM7
      obtain ⟨kept2, hkept2⟩ : ∃ kept2, kept2 = kept ++ [x.setTo SE ((k : Int) + 1) SN] := ⟨_, rfl⟩
      rw [← hkept2] at hM7 HPK
      obtain ⟨gs2, hgs2⟩ : ∃ gs2, gs2 = gs ++ [(ao, N, bc)] := ⟨_, rfl⟩
      rw [← hgs2] at hM7
      have HM7 := Lib.hid hM7
      clear hown5 hg5 hat5 HMZ hsz4 hss hkept2 hgs2 hM7 c0 c1 c2 c3 c4 c5 HMW HC1
      -- which are applied
      obtain ⟨P, hP⟩ : ∃ P, P = w5.heap.size := ⟨_, rfl⟩
      obtain ⟨V, hV⟩ : ∃ V, V = w5.alloc (.cells #[.int .i64 (kn : Nat)] 3) := ⟨_, rfl⟩
      have hbV : Below w5.heap.size w5 V := hV ▸ below_alloc (Below.refl _ _) _
      have HMV := Lib.hid (HM7.out.chg (chg_tint (κ := κ7) (i := 2) hbV) (fun _ h => h.elim))
      have HAV : Hid (ARow w (tint w5 κ7 2) V (some ⟨P, 0, none⟩) 1 1 [kn]) := ⟨rfl, hV ▸ hP ▸ World.ownsRow_lit (base := w.heap.size) (e := 3) (size := 1) w5 #[.int .i64 (kn : Nat)] 1 HM7.out.below.size (by decide) rfl, fun g hg => by
       have : P = g := Option.some.inj hg
       exact tint_new (by omega)⟩
      obtain ⟨κ8, hκ8⟩ : ∃ κ8, κ8 = tint w5 κ7 2 := ⟨_, rfl⟩
      rw [← hκ8] at HMV HAV
      have HV := Lib.hid hV
      have HP := Lib.hid hP
      clear hP hV hbV hκ8 HM7
      go_upto_region 21 with fail
      rw [← HV.out, ← HP.out]
      clear HV HP
      go_upto_if 78 with fail
      go_cut [17] (fun s17 wx => ∃ (aa : Option Addr) (an ac : Nat) (xs : List Nat) (κ' : Nat → Nat), s17 = .slice aa an ac ∧ an ≤ 2 ∧ Hid (Mem w κ' A C T wx cnt c M D f ha hn1 hc1 hs ga2 (kn + 1) gc2 gs2 (kept2.map SubM.s) ka2 (kn + 1) kc2 kept2) ∧ Hid (ARow w κ' wx aa an ac xs) ∧ Hid (∀ x ∈ xs, x < kn + 1))
      case first =>
       by_cases htk : k < tn
       · have htkI : (k : Int) < (tn : Int) := by omega
         obtain ⟨z, hz⟩ : ∃ z, zs[k]? = some z := ⟨_, List.getElem?_eq_getElem (by have := HTW.out.1; unfold cellsI at this; rw [List.length_map] at this; omega)⟩
         obtain ⟨tb, toff, rfl, e0⟩ := int_at (HTW.out.below HMV.out.below) k htk z hz
         have hzr := and_range z 1023 (by omega)
         obtain ⟨BZ, hBZ⟩ : ∃ BZ, BZ = bits .and .i64 z 1023 := ⟨_, rfl⟩
         obtain ⟨R, hR, hRk⟩ : ∃ R : Nat, bits .and .i64 z 1023 % ((kn : Int) + 1) = (R : Nat) ∧ R < kn + 1 := by
          rw [← hBZ]
          have h1 := Int.emod_nonneg BZ (b := (kn : Int) + 1) (by omega)
          have h2 := Int.emod_lt_of_pos BZ (b := (kn : Int) + 1) (by omega)
          generalize BZ % ((kn : Int) + 1) = e at h1 h2 ⊢
          exact ⟨e.toNat, by omega, by omega⟩
         have hbU : Below V.heap.size V (V.alloc (.cells #[.int .i64 (bits .and .i64 z 1023 % ((kn : Int) + 1))] 3)) := below_alloc (Below.refl _ _) _
         have HMU := Lib.hid (HMV.out.chg (chg_tint (κ := κ8) (i := 1) hbU) (fun _ h => h.elim))
         have HAU := Lib.hid (HAV.out.chg (chg_tint (κ := κ8) (i := 1) hbU) id)
         have HR := Lib.hid hR
         have hszV := HMV.out.below.size
         clear hBZ hR hbU hz
         go_wp2_with (at_builtin; refine wpList_appendG rfl (.tmp 79) (.tmp 88) 48 3 info_intm Tryz.underlying48 rfl (by decide) (by decide) rfl w.heap.size (some ⟨P, 0, none⟩) 1 1 [.int .i64 (kn : Nat)] rfl HAU.out.own (some ⟨V.heap.size, 0, none⟩) 1 1 [.int .i64 (bits .and .i64 z 1023 % ((kn : Int) + 1))] rfl (RowN.newH _ _ _ 1 1 _ _ rfl rfl rfl) (fun h => by cases h) (fun u hu => by rw [List.mem_singleton.1 hu]; rfl) (by omega) (by simp; omega) 2 rfl ?_; intro aa2 ac2 w6 hown6 hg6 hat6)
         rw [HR.out] at hown6 hg6 hat6
         rw [HR.out] at HMU HAU
         obtain ⟨hc6, hA6⟩ := HAU.out.push (x := R) hown6 hg6 hat6
         have hM6 := HMU.out.chg hc6 (fun i hi => .inr hi)
         go_meet
         exact ⟨aa2, 2, ac2, [kn] ++ [R], _, rfl, by omega, hM6, hA6, fun x hx => by
          rcases List.mem_append.1 hx with hx | hx
          · rw [List.mem_singleton.1 hx]; exact Nat.lt_succ_self _
          · rw [List.mem_singleton.1 hx]; exact hRk⟩
       · have htkI : ¬ (k : Int) < (tn : Int) := by omega
         go_wp2_with fail
         go_meet
         exact ⟨some ⟨P, 0, none⟩, 1, 1, [kn], κ8, rfl, by omega, HMV, HAV, fun x hx => by rw [List.mem_singleton.1 hx]; exact Nat.lt_succ_self _⟩
      case rest =>
      obtain ⟨aa, an, ac, xs, κ9, rfl, han, HM9, HA9, HXS⟩ := hcut
      obtain ⟨Z0, hZ0⟩ : ∃ Z0, Z0 = wc := ⟨_, rfl⟩
      rw [← hZ0] at HM9 HA9
      rw [← hZ0]
      clear hZ0 HMV HAV
      go_wp2_with fail
      go_loopg [10, 92] an (fun g' s10 s92 wx => ∃ (j cnt2 hn2 hc2 : Nat) (ha2 : Option Addr) (κ2 : Nat → Nat) (c2 G2 : CertV) (M2 : Nat) (D2 : DataW Unit) (f2 : Int → Option (Nat × SV)) (hs2 : List DoneV), s10 = .slice ha2 hn2 hc2 ∧ s92 = .int .i64 j ∧ j ≤ an ∧ cnt2 ≤ cnt + j ∧ g' = an - j ∧ Hid (Mem w κ2 A C T wx cnt2 c2 M2 D2 f2 ha2 hn2 hc2 hs2 ga2 (kn + 1) gc2 gs2 (kept2.map SubM.s) ka2 (kn + 1) kc2 kept2) ∧ Hid (Pl w c2 G2 f2 hs2 kept2 (k + 1)) ∧ Hid (ARow w κ2 wx aa an ac xs))
      case atStart => exact ⟨0, cnt, hn1, hc1, ha, κ9, c, G, M, D, f, hs, rfl, rfl, Nat.zero_le _, Nat.le_refl _, rfl, HM9, HPK, HA9⟩
      case round =>
       obtain ⟨j, cnt2, hn2, hc2, ha2, κ2, c2, G2, M2, D2, f2, hs2, rfl, rfl, hj, hcnt2, rfl, HM10, HP10, HA10⟩ := hrel
       clear HM9 HPK HA9
       obtain ⟨Y, hY⟩ : ∃ Y, Y = wr := ⟨_, rfl⟩
       rw [← hY] at HM10 HA10
       rw [← hY]
       clear hY
       have hj0 : (0 : Int) ≤ (j : Int) := by omega
       have hnatj : ((j : Int)).toNat = j := by omega
       by_cases hltj : j < an
       · have hjn : (j : Int) < (an : Int) := by omega
         obtain ⟨y, hy⟩ : ∃ y, xs[j]? = some y := ⟨_, List.getElem?_eq_getElem (by rw [HA10.out.len]; exact hltj)⟩
         have hyk : y < kn + 1 := HXS.out y (List.mem_of_getElem? hy)
         obtain ⟨ab, aoff, hab, a0⟩ := arow_at HA10.out j hltj hy
         obtain ⟨m, hm⟩ : ∃ m, kept2[y]? = some m := ⟨_, List.getElem?_eq_getElem (by rw [HM10.out.k.len]; exact hyk)⟩
         obtain ⟨q, hq⟩ : ∃ q, gs2[y]? = some q := ⟨_, List.getElem?_eq_getElem (by rw [HM10.out.g.len]; exact hyk)⟩
         obtain ⟨gb, goff, hgb, _⟩ := grow_at HM10.out.g y hyk hq
         have hHA : Hid (ARow w κ2 Y aa an ac xs) := HA10
         have HMM := Lib.hid (List.mem_of_getElem? hm)
         have hs : (kept2.map SubM.s)[y]? = some m.s := by rw [List.getElem?_map, hm]; rfl
         have HM11 := Lib.hid (HM10.out.chg (chg_tint (κ := κ2) (i := 1) (Below.refl Y.heap.size Y)) (fun _ h => h.elim))
         have HA11 := Lib.hid (HA10.out.chg (chg_tint (κ := κ2) (i := 1) (Below.refl Y.heap.size Y)) id)
         have HNEW : Hid (∀ g, Y.heap.size ≤ g → tint Y κ2 1 g = 1) := fun g hg => tint_new hg
         obtain ⟨κ3, hκ3⟩ : ∃ κ3, κ3 = tint Y κ2 1 := ⟨_, rfl⟩
         rw [← hκ3] at HM11 HA11 HNEW
         have hcb : cnt2 ≤ 130 := by omega
         have hix : ((cnt2 + 1 : Nat) : Int) = IntKind.i64.wrap ((cnt2 : Nat) + 1) := by rw [IntKind.wrap_i64]; omega
         have HIX := Lib.hid (fun W (hb : Below Y.heap.size Y W) => machIndex_any κ3 A C T (cnt2 : Nat) c2 cnt2 M2 D2 f2 W (HM11.out.sub hb).mach)
         have HAP := Lib.hid (fun W (hb : Below Y.heap.size Y W) => apply_any κ3 A C T (cnt2 : Nat) (IntKind.i64.wrap ((cnt2 : Nat) + 1)) (by rw [IntKind.wrap_i64]; omega) (by omega) c2 HP10.out.sim.lok cnt2 M2 (by omega) D2 f2 m.s (check_right (HP10.out.ok m HMM.out).words (HP10.out.check m HMM.out)) (HP10.out.check m HMM.out) (HP10.out.sess m HMM.out) q.1 q.2.1 q.2.2 W (HM11.out.sub hb).mach (Own8.slice ((HM11.out.sub hb).g.bytes y q m.s hq hs)).1 (Own8.slice ((HM11.out.sub hb).g.bytes y q m.s hq hs)).2.1 (Own8.slice ((HM11.out.sub hb).g.bytes y q m.s hq hs)).2.2.1 (Own8.slice ((HM11.out.sub hb).g.bytes y q m.s hq hs)).2.2.2)
         have HKEEP : Hid (∀ (κ : Nat → Nat) (W : World) (ss : List SubP), GRow w κ W ga2 (kn + 1) gc2 gs2 ss → W.cell? ⟨gb, goff + y, none⟩ = some (.slice q.1 q.2.1 q.2.2)) := fun κ W ss h => by
          obtain ⟨b', o', e', hc'⟩ := grow_at h y hyk hq
          rw [hgb] at e'
          injection e' with e'
          injection e' with e1 e2
          subst e1 e2
          exact hc'
         have HIXE := Lib.hid hix
         have HCC := Lib.hid hcnt2
         have HHA := Lib.hid hgb
         have hy0 : (0 : Int) ≤ (y : Int) := by omega
         have hyn : (y : Int) < (kn : Int) + 1 := by omega
         have hnaty : ((y : Int)).toNat = y := by omega
         subst hab
         subst hgb
         clear hκ3 hix HM10 HA10 hHA hy hs HHA
         go_upto_region 26 with fail
         clear a0
         go_cut [20, 21] (fun s20 s21 wx => ∃ (AB : Nat) (κ5 : Nat → Nat) (c3 : CertV) (M3 : Nat) (D3 : DataW Unit) (f3 : Int → Option (Nat × SV)) (se sq code num : Int) (fresh : Bool), s20 = .pointer (some ⟨AB, 0, none⟩) ∧ s21 = .int .i64 0 ∧ Hid (Mem w κ5 A C T wx (cnt2 + 1) c3 M3 D3 f3 ha2 hn2 hc2 hs2 (some ⟨gb, goff, none⟩) (kn + 1) gc2 gs2 (kept2.map SubM.s) ka2 (kn + 1) kc2 kept2) ∧ Hid (ARow w κ5 wx (some ⟨ab, aoff, none⟩) an ac xs) ∧ Hid (wx.heap[AB]? = some (.cells #[.int .i64 se, .int .i64 sq, .int .i64 code, .int .i64 num, .bool fresh] 57 (0, 0))) ∧ Hid ((fresh = false ∧ c3 = c2) ∨ (fresh = true ∧ Step c2 m.s code num c3 ∧ ¬ Blkd (f2 m.s.session) m.s.seq ∧ Blkd (f3 m.s.session) m.s.seq)) ∧ Hid (∀ x q, Blkd (f2 x) q → Blkd (f3 x) q))
         case first =>
          refine wp_region_noPanic ?_
          refine wp_region_held_drew (S := (fun w' => w'.cell? ⟨gb, goff + y, none⟩ = some (.slice q.1 q.2.1 q.2.2))) (by kernel_rfl) ?_ (fun hHeld0 => ?_)
          · exact HKEEP.out κ3 _ _ (HM11.out.sub (Below.refl Y.heap.size Y).drew).g
          refine wu 0 rfl ?_
          refine wu 1 rfl ?_
          refine wu 4 rfl ?_
          refine wu 5 rfl ?_
          refine wu 6 rfl ?_
          refine wu 7 rfl ?_
          refine wz 2 13 rfl (fun K hK => ?_) rfl fun K hK => ?_
          · skip
            go_simp
            refine (HIX.out _ (Below.refl Y.heap.size Y).drew).mono ?_
            rintro e w4 ⟨rfl, rfl⟩
            go_wp2_with fail
            refine hK.out _ _ ?_ (fun hHeld1 => ?_)
            · exact HKEEP.out κ3 _ _ (HM11.out.sub (Below.refl Y.heap.size Y).drew).g
            clear hK K hHeld0
            (try simp only [Act.put]); (try simp only [List.setIfInBounds_toArray]); (try simp only [List.set])
            refine wu 3 rfl ?_
            refine wu 8 rfl ?_
            refine wz 9 13 rfl (fun K hK => ?_) rfl fun K hK => ?_
            · skip
              go_simp
              have hpre := (Below.refl Y.heap.size Y).drew
              refine (HAP.out _ hpre).mono ?_
              rintro e w5 ⟨κ4, c3, se, sq, code, num, fresh, M3, D3, f3, rfl, hc5, hm5, hfr, _, hbk⟩
              rw [← HIXE.out] at hm5
              have HM12 := Lib.hid ((HM11.out.sub hpre).move hc5 (fun i hi => by unfold JM at hi; omega) hm5)
              have HA12 := Lib.hid ((HA11.out.chg (Chg.of_below (J := fun _ => False) hpre) id).chg hc5 (by unfold JM; omega))
              have HFR := Lib.hid hfr
              have HBK := Lib.hid hbk
              clear hpre hc5 hm5 hfr hbk
              go_wp2_with fail
              refine hK.out _ _ ?_ (fun hHeld2 => ?_)
              · exact HKEEP.out κ4 _ _ HM12.out.g
              clear hK K hHeld1
              (try simp only [Act.put]); (try simp only [List.setIfInBounds_toArray]); (try simp only [List.set])
              refine wu 10 rfl ?_
              refine wu 11 rfl ?_
              refine wu 12 rfl ?_
              refine wy 13 rfl fun K hK => ?_
              go_simp
              refine hK.out _ _ ?_ (fun hHeld3 => ?_)
              · exact HKEEP.out κ4 _ _ (HM12.out.sub (below_alloc (Below.refl w5.heap.size w5) _)).g
              clear hK K hHeld2
              (try simp only [Act.put]); (try simp only [List.setIfInBounds_toArray]); (try simp only [List.set])
              refine wy 14 rfl fun K hK => ?_
              go_simp
              refine hK.out _ _ ?_ (fun hHeld4 => ?_)
              · exact HKEEP.out κ4 _ _ (HM12.out.sub (below_alloc (Below.refl w5.heap.size w5) _)).g
              clear hK K hHeld3
              (try simp only [Act.put]); (try simp only [List.setIfInBounds_toArray]); (try simp only [List.set])
              refine wu 15 rfl ?_
              refine wpAnyH_done (by kernel_rfl) ?_ _
              refine NoPanic.normal ?_
              have hR := heap_alloc_new w5 (.cells #[.int .i64 se, .int .i64 sq, .int .i64 code, .int .i64 num, .bool fresh] 57)
              have hbW : Below w5.heap.size w5 (w5.alloc (.cells #[.int .i64 se, .int .i64 sq, .int .i64 code, .int .i64 num, .bool fresh] 57)) := below_alloc (Below.refl _ _) _
              have HRM := Lib.hid (HM12.out.sub hbW)
              have HRA := Lib.hid (HA12.out.chg (Chg.of_below (J := fun _ => False) hbW) id)
              have HRB := Lib.hid hR
              go_wp2_with fail
              go_meet
              exact ⟨_, _, c3, M3, D3, f3, se, sq, code, num, fresh, rfl, rfl, HRM, HRA, HRB, HFR, HBK⟩
            · skip
              go_simp
              refine hK.out _ _ ?_ (fun hHeld5 => ?_)
              · exact HKEEP.out κ3 _ _ (HM11.out.sub (below_alloc (Below.refl Y.heap.size Y) (.cells #[.int .i64 0, .int .i64 0, .int .i64 0, .int .i64 0, .bool false] 57)).drew).g
              clear hK K hHeld1
              (try simp only [Act.put]); (try simp only [List.setIfInBounds_toArray]); (try simp only [List.set])
              refine wy 9 rfl fun K hK => ?_
              go_simp
              have hpre := (below_alloc (Below.refl Y.heap.size Y) (.cells #[.int .i64 0, .int .i64 0, .int .i64 0, .int .i64 0, .bool false] 57)).drew
              refine (HAP.out _ hpre).mono ?_
              rintro e w5 ⟨κ4, c3, se, sq, code, num, fresh, M3, D3, f3, rfl, hc5, hm5, hfr, _, hbk⟩
              rw [← HIXE.out] at hm5
              have HM12 := Lib.hid ((HM11.out.sub hpre).move hc5 (fun i hi => by unfold JM at hi; omega) hm5)
              have HA12 := Lib.hid ((HA11.out.chg (Chg.of_below (J := fun _ => False) hpre) id).chg hc5 (by unfold JM; omega))
              have HFR := Lib.hid hfr
              have HBK := Lib.hid hbk
              have hv5 : w5.heap[Y.heap.size]? = some (.cells #[.int .i64 0, .int .i64 0, .int .i64 0, .int .i64 0, .bool false] 57 (0, 0)) := (hc5.block _ (by simp) (by rw [HNEW.out _ (Nat.le_refl _)]; unfold JM; omega)).trans (heap_alloc_new Y _)
              have hk5 : κ4 Y.heap.size = 1 := (hc5.paint _ (by simp)).trans (HNEW.out _ (Nat.le_refl _))
              obtain ⟨⟨vv0, vv1, vv2, vv3, vv4⟩, vf0, vf1, vf2, vf3, vf4⟩ := five_facts hv5
              clear hpre hc5 hm5 hfr hbk
              go_wp2_with fail
              refine hK.out _ _ ?_ (fun hHeld6 => ?_)
              · exact HKEEP.out κ4 _ _ HM12.out.g
              clear hK K hHeld5
              (try simp only [Act.put]); (try simp only [List.setIfInBounds_toArray]); (try simp only [List.set])
              refine wu 10 rfl ?_
              refine wu 11 rfl ?_
              refine wu 12 rfl ?_
              refine wy 14 rfl fun K hK => ?_
              go_simp
              refine hK.out _ _ ?_ (fun hHeld7 => ?_)
              · exact HKEEP.out κ4 _ _ (HM12.out.chg (Chg.of_grown (J := (· = 1)) (five_grown w5 Y.heap.size _ _ _ _ _) hk5) (fun i hi => .inl hi)).g
              clear hK K hHeld6
              (try simp only [Act.put]); (try simp only [List.setIfInBounds_toArray]); (try simp only [List.set])
              refine wu 15 rfl ?_
              refine wpAnyH_done (by kernel_rfl) ?_ _
              refine NoPanic.normal ?_
              have hR := five_set hv5 (.int .i64 se) (.int .i64 sq) (.int .i64 code) (.int .i64 num) (.bool fresh)
              have hcW := Chg.of_grown (J := (· = 1)) (five_grown w5 Y.heap.size (.int .i64 se) (.int .i64 sq) (.int .i64 code) (.int .i64 num) (.bool fresh)) hk5
              have HRM := Lib.hid (HM12.out.chg hcW (fun i hi => .inl hi))
              have HRA := Lib.hid (HA12.out.chg hcW (by omega))
              have HRB := Lib.hid hR
              go_wp2_with fail
              go_meet
              exact ⟨_, _, c3, M3, D3, f3, se, sq, code, num, fresh, rfl, rfl, HRM, HRA, HRB, HFR, HBK⟩
          · skip
            go_simp
            refine hK.out _ _ ?_ (fun hHeld8 => ?_)
            · exact HKEEP.out κ3 _ _ (HM11.out.sub (below_alloc (Below.refl Y.heap.size Y) (.cells #[.int .i64 0, .int .i64 0, .int .i64 0, .int .i64 0, .bool false] 57)).drew).g
            clear hK K hHeld0
            (try simp only [Act.put]); (try simp only [List.setIfInBounds_toArray]); (try simp only [List.set])
            refine wy 2 rfl fun K hK => ?_
            go_simp
            refine (HIX.out _ (below_alloc (Below.refl Y.heap.size Y) (.cells #[.int .i64 0, .int .i64 0, .int .i64 0, .int .i64 0, .bool false] 57)).drew).mono ?_
            rintro e w4 ⟨rfl, rfl⟩
            go_wp2_with fail
            refine hK.out _ _ ?_ (fun hHeld9 => ?_)
            · exact HKEEP.out κ3 _ _ (HM11.out.sub (below_alloc (Below.refl Y.heap.size Y) (.cells #[.int .i64 0, .int .i64 0, .int .i64 0, .int .i64 0, .bool false] 57)).drew).g
            clear hK K hHeld8
            (try simp only [Act.put]); (try simp only [List.setIfInBounds_toArray]); (try simp only [List.set])
            refine wu 3 rfl ?_
            refine wu 8 rfl ?_
            refine wy 9 rfl fun K hK => ?_
            go_simp
            have hpre := (below_alloc (Below.refl Y.heap.size Y) (.cells #[.int .i64 0, .int .i64 0, .int .i64 0, .int .i64 0, .bool false] 57)).drew
            refine (HAP.out _ hpre).mono ?_
            rintro e w5 ⟨κ4, c3, se, sq, code, num, fresh, M3, D3, f3, rfl, hc5, hm5, hfr, _, hbk⟩
            rw [← HIXE.out] at hm5
            have HM12 := Lib.hid ((HM11.out.sub hpre).move hc5 (fun i hi => by unfold JM at hi; omega) hm5)
            have HA12 := Lib.hid ((HA11.out.chg (Chg.of_below (J := fun _ => False) hpre) id).chg hc5 (by unfold JM; omega))
            have HFR := Lib.hid hfr
            have HBK := Lib.hid hbk
            have hv5 : w5.heap[Y.heap.size]? = some (.cells #[.int .i64 0, .int .i64 0, .int .i64 0, .int .i64 0, .bool false] 57 (0, 0)) := (hc5.block _ (by simp) (by rw [HNEW.out _ (Nat.le_refl _)]; unfold JM; omega)).trans (heap_alloc_new Y _)
            have hk5 : κ4 Y.heap.size = 1 := (hc5.paint _ (by simp)).trans (HNEW.out _ (Nat.le_refl _))
            obtain ⟨⟨vv0, vv1, vv2, vv3, vv4⟩, vf0, vf1, vf2, vf3, vf4⟩ := five_facts hv5
            clear hpre hc5 hm5 hfr hbk
            go_wp2_with fail
            refine hK.out _ _ ?_ (fun hHeld10 => ?_)
            · exact HKEEP.out κ4 _ _ HM12.out.g
            clear hK K hHeld9
            (try simp only [Act.put]); (try simp only [List.setIfInBounds_toArray]); (try simp only [List.set])
            refine wu 10 rfl ?_
            refine wu 11 rfl ?_
            refine wu 12 rfl ?_
            refine wy 14 rfl fun K hK => ?_
            go_simp
            refine hK.out _ _ ?_ (fun hHeld11 => ?_)
            · exact HKEEP.out κ4 _ _ (HM12.out.chg (Chg.of_grown (J := (· = 1)) (five_grown w5 Y.heap.size _ _ _ _ _) hk5) (fun i hi => .inl hi)).g
            clear hK K hHeld10
            (try simp only [Act.put]); (try simp only [List.setIfInBounds_toArray]); (try simp only [List.set])
            refine wu 15 rfl ?_
            refine wpAnyH_done (by kernel_rfl) ?_ _
            refine NoPanic.normal ?_
            have hR := five_set hv5 (.int .i64 se) (.int .i64 sq) (.int .i64 code) (.int .i64 num) (.bool fresh)
            have hcW := Chg.of_grown (J := (· = 1)) (five_grown w5 Y.heap.size (.int .i64 se) (.int .i64 sq) (.int .i64 code) (.int .i64 num) (.bool fresh)) hk5
            have HRM := Lib.hid (HM12.out.chg hcW (fun i hi => .inl hi))
            have HRA := Lib.hid (HA12.out.chg hcW (by omega))
            have HRB := Lib.hid hR
            go_wp2_with fail
            go_meet
            exact ⟨_, _, c3, M3, D3, f3, se, sq, code, num, fresh, rfl, rfl, HRM, HRA, HRB, HFR, HBK⟩
         case rest =>
          obtain ⟨AB, κ5, c3, M3, D3, f3, se, sq, code, num, fresh, rfl, rfl, HM13, HA13, HAN, HFR, HBK⟩ := hcut
          obtain ⟨W6, hW6⟩ : ∃ W6, W6 = wc := ⟨_, rfl⟩
          rw [← hW6] at HM13 HA13 HAN
          rw [← hW6]
          clear hW6 HM11 HA11 HNEW HIX HAP HKEEP HIXE
          obtain ⟨⟨_, _, v2, v3, v4⟩, _⟩ := five_facts HAN.out
          cases fresh with
          | false =>
            obtain rfl : c3 = c2 := by
             rcases HFR.out with ⟨_, h⟩ | ⟨h, _⟩
             · exact h
             · cases h
            have HP13 := Lib.hid (HP10.out.same HBK.out)
            go_wp2_with fail
            go_roundg (an - (j + 1))
            case measure => omega
            case rel => exact ⟨j + 1, cnt2 + 1, hn2, hc2, ha2, κ5, c3, G2, M3, D3, f3, hs2, rfl, by go_num, by omega, by omega, rfl, HM13, HP13, HA13⟩
          | true =>
            obtain ⟨hst, hno, hyes⟩ : Step c2 m.s code num c3 ∧ ¬ Blkd (f2 m.s.session) m.s.seq ∧ Blkd (f3 m.s.session) m.s.seq := by
             rcases HFR.out with ⟨h, _⟩ | ⟨_, h⟩
             · cases h
             · exact h
            by_cases hcode : code = 0
            · subst hcode
              obtain ⟨G3, hp14⟩ := HP10.out.commit HMM.out hst hno hyes HBK.out
              have HP14 := Lib.hid hp14
              have hlen2 := HP10.out.len
              have hrl := HM13.out.row.len
              obtain ⟨kb, koff, hkb, m0, m1, m2, m3, m4, m5⟩ := sub_at (RowN.of_own HM13.out.k.own) HM13.out.k.len y hyk m hm
              obtain ⟨i0, hi, hz0, hz1, hz2⟩ := info_parts info_done
              have hh2 : hn2 ≤ 60 := by omega
              subst hkb
              clear hst hno hyes hp14 hlen2 hrl HFR
              go_upto_region 30 with fail
              refine wp_region_noPanic ?_
              refine wp_region_held_drew (S := (fun _ => True)) (by kernel_rfl) ?_ (fun hHeld0 => ?_)
              · trivial
              refine wu 0 rfl ?_
              refine wu 1 rfl ?_
              refine wu 2 rfl ?_
              refine wu 4 rfl ?_
              refine wu 5 rfl ?_
              refine wu 6 rfl ?_
              refine wz 3 7 rfl (fun K hK => ?_) rfl fun K hK => ?_
              · skip
                go_simp
                refine hK.out _ _ ?_ (fun hHeld1 => ?_)
                · trivial
                clear hK K hHeld0
                (try simp only [Act.put]); (try simp only [List.setIfInBounds_toArray]); (try simp only [List.set])
                refine wy 7 rfl fun K hK => ?_
                go_simp
                refine hK.out _ _ ?_ (fun hHeld2 => ?_)
                · trivial
                clear hK K hHeld1
                (try simp only [Act.put]); (try simp only [List.setIfInBounds_toArray]); (try simp only [List.set])
                refine wu 8 rfl ?_
                refine wy 9 rfl fun K hK => ?_
                go_simp
                refine hK.out _ _ ?_ (fun hHeld3 => ?_)
                · trivial
                clear hK K hHeld2
                (try simp only [Act.put]); (try simp only [List.setIfInBounds_toArray]); (try simp only [List.set])
                obtain ⟨Yb, hYb⟩ : ∃ Yb, Yb = (W6.alloc (.cells #[.int .i64 num, .int .i64 m.s.session, .int .i64 m.s.seq, .int .i64 m.s.snap, .slice m.ra m.s.reads.length m.rc, .slice m.sa m.s.spans.length m.sc, .slice m.wa m.s.writes.length m.wc] 40)).drew := ⟨_, rfl⟩
                have hbYb : Below W6.heap.size W6 Yb := hYb ▸ (below_alloc (Below.refl _ _) _).drew
                have HMY := Lib.hid (HM13.out.sub hbYb)
                have HAY := Lib.hid (HA13.out.chg (Chg.of_below (J := fun _ => False) hbYb) id)
                have hnews : 0 < 1 → ∃ ad, (some ⟨W6.heap.size, 0, none⟩ : Option Addr) = some ad ∧ ∀ j u, (DoneV.cells ⟨num, m⟩)[j]? = some u → Yb.cell? (ad.add j) = some u := by rw [hYb]; exact (RowN.newH W6 _ _ 7 1 _ (DoneV.cells ⟨num, m⟩) rfl rfl rfl).news
                obtain ⟨ao3, cp3, w6, happ, hown6, hg6, hat6⟩ := run_append_row (P := Tryz.prog) Yb w.heap.size 38 38 40 i0 _ 7 104 Tryz.underlying38 hi hz0 hz1 hz2 rfl (by decide) ha2 hn2 hc2 _ HMY.out.row.own (some ⟨W6.heap.size, 0, none⟩) 1 1 _ rfl hnews (fun h => by cases h) (done_one _) (by simp only [maxLen]; omega) (by omega) HMY.out.below.size
                obtain ⟨κ6, hc6, hm6⟩ := HMY.out.pushH (d := ⟨num, m⟩) hown6 hg6 hat6
                have HM14 := Lib.hid hm6
                have HA14 := Lib.hid (HAY.out.chg hc6 (by omega))
                rw [← hYb]
                clear hYb hbYb hnews hown6 hg6 hat6 hc6 hm6
                refine wy 10 rfl fun K hK => ?_
                refine step_append_run rfl (.tmp 119) (.tmp 128) 38 rfl (by simp [Act.eval]) (by simp [Act.eval]) happ ?_
                refine hK.out _ _ ?_ (fun hHeld4 => ?_)
                · trivial
                clear hK K hHeld3
                (try simp only [Act.put]); (try simp only [List.setIfInBounds_toArray]); (try simp only [List.set])
                refine wu 11 rfl ?_
                refine wpAnyH_done (by kernel_rfl) ?_ _
                refine NoPanic.normal ?_
                go_wp2_with fail
                go_roundg (an - (j + 1))
                case measure => omega
                case rel => exact ⟨j + 1, cnt2 + 1, hn2 + 1, cp3, ao3, κ6, c3, G3, M3, D3, f3, hs2 ++ [⟨num, m⟩], rfl, by go_num, by omega, by omega, rfl, HM14, HP14, HA14⟩
              · skip
                go_simp
                refine hK.out _ _ ?_ (fun hHeld5 => ?_)
                · trivial
                clear hK K hHeld0
                (try simp only [Act.put]); (try simp only [List.setIfInBounds_toArray]); (try simp only [List.set])
                refine wy 3 rfl fun K hK => ?_
                go_simp
                refine hK.out _ _ ?_ (fun hHeld6 => ?_)
                · trivial
                clear hK K hHeld5
                (try simp only [Act.put]); (try simp only [List.setIfInBounds_toArray]); (try simp only [List.set])
                refine wu 8 rfl ?_
                refine wy 9 rfl fun K hK => ?_
                go_simp
                refine hK.out _ _ ?_ (fun hHeld7 => ?_)
                · trivial
                clear hK K hHeld6
                (try simp only [Act.put]); (try simp only [List.setIfInBounds_toArray]); (try simp only [List.set])
                obtain ⟨Yb, hYb⟩ : ∃ Yb, Yb = (W6.alloc (.cells #[.int .i64 num, .int .i64 m.s.session, .int .i64 m.s.seq, .int .i64 m.s.snap, .slice m.ra m.s.reads.length m.rc, .slice m.sa m.s.spans.length m.sc, .slice m.wa m.s.writes.length m.wc] 40)).drew := ⟨_, rfl⟩
                have hbYb : Below W6.heap.size W6 Yb := hYb ▸ (below_alloc (Below.refl _ _) _).drew
                have HMY := Lib.hid (HM13.out.sub hbYb)
                have HAY := Lib.hid (HA13.out.chg (Chg.of_below (J := fun _ => False) hbYb) id)
                have hnews : 0 < 1 → ∃ ad, (some ⟨W6.heap.size, 0, none⟩ : Option Addr) = some ad ∧ ∀ j u, (DoneV.cells ⟨num, m⟩)[j]? = some u → Yb.cell? (ad.add j) = some u := by rw [hYb]; exact (RowN.newH W6 _ _ 7 1 _ (DoneV.cells ⟨num, m⟩) rfl rfl rfl).news
                obtain ⟨ao3, cp3, w6, happ, hown6, hg6, hat6⟩ := run_append_row (P := Tryz.prog) Yb w.heap.size 38 38 40 i0 _ 7 104 Tryz.underlying38 hi hz0 hz1 hz2 rfl (by decide) ha2 hn2 hc2 _ HMY.out.row.own (some ⟨W6.heap.size, 0, none⟩) 1 1 _ rfl hnews (fun h => by cases h) (done_one _) (by simp only [maxLen]; omega) (by omega) HMY.out.below.size
                obtain ⟨κ6, hc6, hm6⟩ := HMY.out.pushH (d := ⟨num, m⟩) hown6 hg6 hat6
                have HM14 := Lib.hid hm6
                have HA14 := Lib.hid (HAY.out.chg hc6 (by omega))
                rw [← hYb]
                clear hYb hbYb hnews hown6 hg6 hat6 hc6 hm6
                refine wy 10 rfl fun K hK => ?_
                refine step_append_run rfl (.tmp 119) (.tmp 128) 38 rfl (by simp [Act.eval]) (by simp [Act.eval]) happ ?_
                refine hK.out _ _ ?_ (fun hHeld8 => ?_)
                · trivial
                clear hK K hHeld7
                (try simp only [Act.put]); (try simp only [List.setIfInBounds_toArray]); (try simp only [List.set])
                refine wu 11 rfl ?_
                refine wpAnyH_done (by kernel_rfl) ?_ _
                refine NoPanic.normal ?_
                go_wp2_with fail
                go_roundg (an - (j + 1))
                case measure => omega
                case rel => exact ⟨j + 1, cnt2 + 1, hn2 + 1, cp3, ao3, κ6, c3, G3, M3, D3, f3, hs2 ++ [⟨num, m⟩], rfl, by go_num, by omega, by omega, rfl, HM14, HP14, HA14⟩
            · obtain rfl : c3 = c2 := by
               rcases hst.2 with ⟨_, _, h⟩ | ⟨h, _⟩
               · exact h
               · exact absurd h hcode
              have HP13 := Lib.hid (HP10.out.same HBK.out)
              have hcn : (code == 0) = false := by rw [beq_eq_false_iff_ne]; exact hcode
              clear hst hno hyes HFR
              go_wp2_with fail
              go_roundg (an - (j + 1))
              case measure => omega
              case rel => exact ⟨j + 1, cnt2 + 1, hn2, hc2, ha2, κ5, c3, G2, M3, D3, f3, hs2, rfl, by go_num, by omega, by omega, rfl, HM13, HP13, HA13⟩
       · obtain rfl : j = an := by omega
         go_wp2_with fail
         go_roundg (n - (k + 1))
         case measure => omega
         case rel => exact ⟨k + 1, cnt2, hn2, hc2, gc2, kc2, kn + 1, ha2, ga2, ka2, κ2, rfl, rfl, rfl, by go_num, by omega, by omega, by omega, by omega, rfl, c2, G2, M2, D2, f2, hs2, gs2, kept2, HM10.out, HP10.out⟩
   · obtain rfl : k = n := by omega
     go_wp2_with fail
     go_meet
     exact ⟨cnt, k, hn1, hc1, gc, kc, kn, ha, ga, ka, κ, rfl, hk60, HI⟩
 case rest =>
  obtain ⟨cnt, i, m, cp, gc, kc, kn, ha, ga, ka, κ, rfl, hi60, HI⟩ := hcut
  obtain ⟨X, hX⟩ : ∃ X, X = wc := ⟨_, rfl⟩
  rw [← hX] at HI
  rw [← hX]
  clear hX HI0
  obtain ⟨c, G, M, D, f, H, gs, kept, hmem, hpl⟩ := HI.out
  have hlen := hpl.len
  have hrl := hmem.row.len
  have hgl : G.recs.length ≤ 64 := by have h := hpl.hist; rw [h, List.length_map] at hlen; omega
  have hmok : ∀ d ∈ H, d.m.ok w := fun d hd => by
   rw [hpl.hist] at hd
   obtain ⟨r, hr, rfl⟩ := List.mem_map.1 hd
   exact hpl.ok _ (hpl.com r hr).1
  have hcount : c.count = (m : Int) := by rw [hpl.sim.count, ← hpl.sim.len, ← hrl, hpl.hist, List.length_map]
  have hh : HistAt X ha m cp H := hmem.row.hist hmok hmem.below
  have hr : rightP H = true := by rw [hpl.hist]; exact hpl.good.rightP hgl
  have hun : ∀ (order left : List Int), TopoOut (edgesP H) (H.map DoneV.num) order left → left = [] := fun order left ht => hpl.good.unstuck (by rw [← hpl.hist]; exact ht)
  have hcn : ∀ W : World, Below X.heap.size X W → Calls Tryz.prog 17 #[.pointer (some ⟨A, 0, none⟩)] W (RetEq W (.int .i64 (m : Nat))) := fun W hb => by
   have h := machCount_any κ A C T (cnt : Nat) c cnt M D f W (hmem.sub hb).mach
   rw [hcount] at h
   exact h
  have HHI := Lib.hid hh
  have HR := Lib.hid hr
  have HUN := Lib.hid hun
  have HCN := Lib.hid hcn
  have HRT := Lib.hid (rightP_right (fun d hd => (hmok d hd).words) hr).2
  have HB := Lib.hid hmem.below
  have HRL := Lib.hid hrl
  have HO := Lib.hid (order_any ha m cp H X hh)
  clear hh hr hun hcn hmok hgl hcount hlen hrl hmem hpl HI
  go_wp2_with fail
  refine HO.out.mono ?_
  rintro e w1 ⟨o, ⟨oa, on, oc⟩, ok, rfl, hol, hro, hoc, hoc2, hb1, hcase⟩
  dsimp only [RowV.val]
  simp only at hol hro hoc hoc2
  obtain ⟨rfl, HTO⟩ : ok = true ∧ Hid (TopoOut (edgesP H) (H.map DoneV.num) o []) := by
   rcases hcase with ⟨h1, _, h2⟩ | ⟨_, _, h1 | ⟨order, left, h1, h2⟩⟩
   · exact ⟨h1, h2⟩
   · rw [HR.out] at h1; cases h1
   · exact absurd (HUN.out _ _ h2) h1
  have hrd := serialReads_any ha m cp H HR.out oa on oc o hol
  have hp : o.Perm (H.map DoneV.num) := by have := HTO.out.perm; rwa [List.append_nil] at this
  have hlaw : ∀ key, KeyOk key → ∀ (k : Nat) (x : Int) (d : DoneV), o[k]? = some x → H[(x - 1).toNat]? = some d → readsP d.m.s key = true → lastP H key (o.take k) = verP H key d.m.s.snap := fun key hkey k x d h1 h2 h3 => reads_law HR.out HRT.out hp HTO.out.ordered key hkey k x d h1 h2 h3
  have HRD := Lib.hid (fun W (hb : Below w1.heap.size w1 W) => hrd W ((HHI.out.below hb1).below hb) (hro.below hb) hp hlaw)
  have HRI := Lib.hid (right_any ha m cp H w1 (HHI.out.below hb1))
  have HB1 := Lib.hid hb1
  have hon : on = m := by have h1 := hp.length_eq; rw [List.length_map] at h1; have := HRL.out; omega
  subst hon
  rw [HR.out] at HRI
  clear hol hro hb1 hcase hrd hp hlaw HO
  go_wp2_with fail
  refine HRI.out.mono ?_
  rintro e w2 ⟨rfl, hb2⟩
  have HB2 := Lib.hid hb2
  clear hb2
  go_wp2_with fail
  refine (HRD.out _ HB2.out).mono ?_
  rintro e w3 ⟨rfl, hb3⟩
  have HB3 := Lib.hid (below_then HB1.out (below_then HB2.out hb3))
  clear hb3
  go_wp2_with fail
  refine (HCN.out _ HB3.out).mono ?_
  rintro e w4 ⟨rfl, rfl⟩
  have HB4 := Lib.hid (below_then HB.out HB3.out)
  go_wp2_with fail
  go_ret
  exact ⟨rfl, HB4.out⟩
end Go.Proofs.YtpknmfmpiachkaaGreat
