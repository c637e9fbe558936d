/- WholeSums: the walk. -/
import Derived.Test.YtpknmfmpiachkaaGreatSim2
import Derived.Test.YtpknmfmpiachkaaGreatSnd2
import Derived.Test.YtpknmfmpiachkaaGreatOpen
import Derived.Deep.CutBlock
import Derived.Deep.LoopGhost
namespace Go.Proofs.YtpknmfmpiachkaaGreat
open Go.RowKit

/-- a Snap that counts back -/
def adjI (count snap : Int) : Int := if snap < 0 ∧ -50 < snap then max (count + 1 + snap) 0 else snap
def SubM.snapTo (m : SubM) (sn : Int) : SubM := { m with s := { m.s with snap := sn } }
theorem SubM.ok.snapTo {w : World} {m : SubM} (h : m.ok w) (sn : Int) : (m.snapTo sn).ok w := ⟨⟨h.words.reads, h.words.spans, h.words.writes⟩, h.reads, h.spans, h.writes, h.lr, h.ls, h.lw⟩

theorem dropM (vs : List SubM) : ∀ i, (vs.flatMap SubM.row).drop (i * 6) = (vs.drop i).flatMap SubM.row := by
  induction vs with
  | nil => intro i; simp
  | cons x r ih =>
    intro i
    cases i with
    | zero => simp
    | succ i =>
      rw [List.drop_succ_cons, ← ih i, List.flatMap_cons, show (i + 1) * 6 = 6 + i * 6 by omega, ← List.drop_drop]
      congr 1
theorem sub_at {w : World} {a : Option Addr} {n : Nat} {vs : List SubM} (hr : RowN w a 6 n (vs.flatMap SubM.row)) (hs : vs.length = n) (k : Nat) (hk : k < n) (v : SubM) (he : vs[k]? = some v) :
    ∃ b off, a = some ⟨b, off, none⟩ ∧ w.cell? ⟨b, off + k * 6, none⟩ = some (.int .i64 v.s.session) ∧ w.cell? ⟨b, off + k * 6 + 1, none⟩ = some (.int .i64 v.s.seq) ∧ w.cell? ⟨b, off + k * 6 + 2, none⟩ = some (.int .i64 v.s.snap) ∧ w.cell? ⟨b, off + k * 6 + 3, none⟩ = some (.slice v.ra v.s.reads.length v.rc) ∧ w.cell? ⟨b, off + k * 6 + 4, none⟩ = some (.slice v.sa v.s.spans.length v.sc) ∧ w.cell? ⟨b, off + k * 6 + 5, none⟩ = some (.slice v.wa v.s.writes.length v.wc) := by
  obtain ⟨b, off, ha, hc⟩ := hr.2 (by omega)
  have hcell : ∀ i u, v.row[i]? = some u → w.cell? ⟨b, off + k * 6 + i, none⟩ = some u := fun i u hu => by
    have hi : i < 6 := (List.getElem?_eq_some_iff.1 hu).1
    have : (vs.flatMap SubM.row)[k * 6 + i]? = some u := by
      have h1 : ((vs.flatMap SubM.row).drop (k * 6))[i]? = some u := by
        rw [dropM, List.drop_eq_getElem_cons (show k < vs.length by omega), List.flatMap_cons, List.getElem?_append_left (by simp [SubM.row]; omega)]
        have : vs[k]'(by omega) = v := (List.getElem?_eq_some_iff.1 he).2
        rw [this]
        exact hu
      rwa [List.getElem?_drop] at h1
    rw [Nat.add_assoc]
    exact hc _ _ this
  exact ⟨b, off, ha, hcell 0 _ rfl, hcell 1 _ rfl, hcell 2 _ rfl, hcell 3 _ rfl, hcell 4 _ rfl, hcell 5 _ rfl⟩
theorem away0 {w : World} {κ : Nat → Nat} {m : SubM} (h : m.ok w) (h0 : ∀ g, g < w.heap.size → κ g = 0) (k : Nat) (hk : 0 < k) : Away κ k m :=
  ⟨fun b off e hn => .inl (by rw [h0 b (h.reads.lt (by decide) b off e hn)]; exact hk), fun b off e hn => .inl (by rw [h0 b (h.spans.lt (by decide) b off e hn)]; exact hk), fun b off e hn => .inl (by rw [h0 b (h.writes.lt (by decide) b off e hn)]; exact hk)⟩
theorem grown_drew {w w' : World} {r : Option Nat} (h : w.drew.grownBy w' r) : w.grownBy w' r := ⟨h.os, h.tape, h.output, h.size, h.block⟩
theorem drew_grown {w w' : World} {r : Option Nat} (h : w.grownBy w' r) : w.grownBy w'.drew r := ⟨h.os, h.tape, h.output, h.size, h.block⟩
theorem adj_wrap {c s : Int} (hc : 0 ≤ c ∧ c ≤ 1099511627776) (hs : s < 0 ∧ -50 < s) : max (IntKind.i64.wrap (IntKind.i64.wrap (c + 1) + s)) 0 = max (c + 1 + s) 0 := by
  rw [show IntKind.i64.wrap (c + 1) = c + 1 by rw [IntKind.wrap_i64]; omega, show IntKind.i64.wrap (c + 1 + s) = c + 1 + s by rw [IntKind.wrap_i64]; omega]
theorem grown_refl (w : World) (r : Option Nat) : w.grownBy w r := ⟨rfl, rfl, rfl, Nat.le_refl _, fun _ _ _ => rfl⟩
theorem set_snap {w : World} {B : Nat} {T : TypeId} {fr : Nat × Nat} {c0 c1 c2 c3 c4 c5 : Value} {x y : Int} (h : w.heap[B]? = some (.cells #[c0, c1, c2, c3, c4, c5] T fr)) (e : x = y) : (w.setCell ⟨B, 2, none⟩ (.int .i64 x)).heap[B]? = some (.cells #[c0, c1, .int .i64 y, c3, c4, c5] T fr) := e ▸ set_block (i := 2) h _
theorem run_eq_verdict (a b c d : Int) (w : World) : (Op.equalIn 10000 35 (.agg #[.int .i64 a, .int .i64 b]) (.agg #[.int .i64 c, .int .i64 d])).run Tryz.prog w = .ok ((a == c) && (b == d)) w := by
  generalize hx : (a == c) = x
  generalize hy : (b == d) = y
  cases x <;> cases y <;> go_simp
structure Two (w : World) (κ : Nat → Nat) (A1 A2 LB : Nat) (last : SubM) (wx : World) (less more : CertV) (nn : Nat) : Prop where
  sim : Sim less more
  nn : more.recs.length = nn
  less : CertAt wx κ 10 A1 less
  more : CertAt wx κ 30 A2 more
  below : Below w.heap.size w wx
  old : ∀ g, g < w.heap.size → κ g = 0
  last : wx.heap[LB]? = some (.cells #[.int .i64 last.s.session, .int .i64 last.s.seq, .int .i64 last.s.snap, .slice last.ra last.s.reads.length last.rc, .slice last.sa last.s.spans.length last.sc, .slice last.wa last.s.writes.length last.wc] 26 (0, 0))
  col : κ LB = 0
theorem Two.chg0 {w : World} {κ κ' : Nat → Nat} {A1 A2 LB : Nat} {last : SubM} {wx w1 : World} {l m : CertV} {nn : Nat} (h : Two w κ A1 A2 LB last wx l m nn) (hc : Chg (fun _ => False) κ κ' wx w1) : Two w κ' A1 A2 LB last w1 l m nn :=
  ⟨h.sim, h.nn, h.less.chg hc (fun _ h => h.elim), h.more.chg hc (fun _ h => h.elim), hc.below h.below fun _ _ => id, fun g hg => (hc.paint g (Nat.lt_of_lt_of_le hg h.below.size)).trans (h.old g hg), (hc.block LB (lt_of_block h.last) id).trans h.last, (hc.paint LB (lt_of_block h.last)).trans h.col⟩
/-- a block of the walk's own is written -/
theorem Two.loc {w : World} {κ : Nat → Nat} {A1 A2 LB : Nat} {last : SubM} {wx w1 : World} {l m : CertV} {nn B : Nat} (h : Two w κ A1 A2 LB last wx l m nn) (hB : κ B = 0) (hw : w.heap.size ≤ B) (hg : wx.grownBy w1 (some B)) (hl : B ≠ LB) : Two w κ A1 A2 LB last w1 l m nn := by
  have hc : Chg (· = 0) κ κ wx w1 := Chg.of_grown hg hB
  exact ⟨h.sim, h.nn, h.less.chg hc (fun i hi => by omega), h.more.chg hc (fun i hi => by omega), ⟨hg.os.trans h.below.os, hg.tape.trans h.below.tape, hg.output.trans h.below.output, Nat.le_trans h.below.size hg.size, fun g hgl => (hg.block g (Nat.lt_of_lt_of_le hgl h.below.size) (fun e => by have := Option.some.inj e; omega)).trans (h.below.block g hgl)⟩, h.old, (hg.block LB (lt_of_block h.last) (fun e => hl (Option.some.inj e).symm)).trans h.last, h.col⟩

/-- what holds of both, whatever they know -/
structure Side (w : World) (κ : Nat → Nat) (A1 A2 LB : Nat) (last : SubM) (wx : World) (less more : CertV) : Prop where
  less : CertAt wx κ 10 A1 less
  more : CertAt wx κ 30 A2 more
  below : Below w.heap.size w wx
  old : ∀ g, g < w.heap.size → κ g = 0
  last : wx.heap[LB]? = some (.cells #[.int .i64 last.s.session, .int .i64 last.s.seq, .int .i64 last.s.snap, .slice last.ra last.s.reads.length last.rc, .slice last.sa last.s.spans.length last.sc, .slice last.wa last.s.writes.length last.wc] 26 (0, 0))
  col : κ LB = 0
theorem Two.side {w : World} {κ : Nat → Nat} {A1 A2 LB : Nat} {last : SubM} {wx : World} {l m : CertV} {nn : Nat} (h : Two w κ A1 A2 LB last wx l m nn) : Side w κ A1 A2 LB last wx l m := ⟨h.less, h.more, h.below, h.old, h.last, h.col⟩
theorem Side.two {w : World} {κ : Nat → Nat} {A1 A2 LB : Nat} {last : SubM} {wx : World} {l m : CertV} (h : Side w κ A1 A2 LB last wx l m) (hs : Sim l m) {nn : Nat} (hn : m.recs.length = nn) : Two w κ A1 A2 LB last wx l m nn := ⟨hs, hn, h.less, h.more, h.below, h.old, h.last, h.col⟩
theorem Side.chg0 {w : World} {κ κ' : Nat → Nat} {A1 A2 LB : Nat} {last : SubM} {wx w1 : World} {l m : CertV} (h : Side w κ A1 A2 LB last wx l m) (hc : Chg (fun _ => False) κ κ' wx w1) : Side w κ' A1 A2 LB last w1 l m :=
  ⟨h.less.chg hc (fun _ h => h.elim), h.more.chg hc (fun _ h => h.elim), hc.below h.below fun _ _ => id, fun g hg => (hc.paint g (Nat.lt_of_lt_of_le hg h.below.size)).trans (h.old g hg), (hc.block LB (lt_of_block h.last) id).trans h.last, (hc.paint LB (lt_of_block h.last)).trans h.col⟩
theorem Side.step1 {w : World} {κ κ' : Nat → Nat} {A1 A2 LB : Nat} {last : SubM} {wx w1 : World} {l m l' : CertV} (h : Side w κ A1 A2 LB last wx l m) (hc : Chg (fun i => 10 ≤ i ∧ i ≤ 10 + 9) κ κ' wx w1) (hC : CertAt w1 κ' 10 A1 l') : Side w κ' A1 A2 LB last w1 l' m :=
  ⟨hC, h.more.chg hc (fun i hi => by omega), hc.below h.below fun g hg => by rw [h.old g hg]; omega, fun g hg => (hc.paint g (Nat.lt_of_lt_of_le hg h.below.size)).trans (h.old g hg), (hc.block LB (lt_of_block h.last) (by rw [h.col]; omega)).trans h.last, (hc.paint LB (lt_of_block h.last)).trans h.col⟩
theorem Side.step2 {w : World} {κ κ' : Nat → Nat} {A1 A2 LB : Nat} {last : SubM} {wx w1 : World} {l m m' : CertV} (h : Side w κ A1 A2 LB last wx l m) (hc : Chg (fun i => 30 ≤ i ∧ i ≤ 30 + 9) κ κ' wx w1) (hC : CertAt w1 κ' 30 A2 m') : Side w κ' A1 A2 LB last w1 l m' :=
  ⟨h.less.chg hc (fun i hi => by omega), hC, hc.below h.below fun g hg => by rw [h.old g hg]; omega, fun g hg => (hc.paint g (Nat.lt_of_lt_of_le hg h.below.size)).trans (h.old g hg), (hc.block LB (lt_of_block h.last) (by rw [h.col]; omega)).trans h.last, (hc.paint LB (lt_of_block h.last)).trans h.col⟩

set_option maxRecDepth 100000 in
set_option maxHeartbeats 25600000 in
theorem wholeSums_any (old : Int) (a : Option Addr) (n cap : Nat) (subs : List SubM) (last : SubM) (w : World) (_ : (Lit.int .i64 old).wf = true) (hrow : RowN w a 6 n (subs.flatMap SubM.row)) (hl : subs.length = n) (hn : n ≤ 9223372036854775807) (hok : ∀ m ∈ subs, m.ok w) (hlast : last.ok w) :
    Calls Tryz.prog 3 #[.int .i64 old, .slice a n cap, last.args] w (RetBox w (.bool true)) := by
  have heq := run_eq_verdict
  have hn1 := fun W => new_any (fun _ => 0) 10 1 old W
  have hso := sound_any
  have HROW := Lib.hid hrow
  have HLEN := Lib.hid hl
  have HOK := Lib.hid hok
  have HLAST := Lib.hid hlast
  have HN1 := Lib.hid hn1
  have HSO := Lib.hid hso
  clear hrow hl hok hlast hn1 hso
  obtain ⟨LB, hLB⟩ : ∃ LB, LB = w.heap.size := ⟨_, rfl⟩
  obtain ⟨Y, hY⟩ : ∃ Y, Y = w.alloc (.cells #[.int .i64 last.s.session, .int .i64 last.s.seq, .int .i64 last.s.snap, .slice last.ra last.s.reads.length last.rc, .slice last.sa last.s.spans.length last.sc, .slice last.wa last.s.writes.length last.wc] 26) := ⟨_, rfl⟩
  have hbY : Below w.heap.size w Y := hY ▸ below_alloc (Below.refl _ _) _
  have hYL : Y.heap[LB]? = some (.cells #[.int .i64 last.s.session, .int .i64 last.s.seq, .int .i64 last.s.snap, .slice last.ra last.s.reads.length last.rc, .slice last.sa last.s.spans.length last.sc, .slice last.wa last.s.writes.length last.wc] 26 (0, 0)) := hLB ▸ hY ▸ heap_alloc_new w _
  have HY := Lib.hid hY
  have HBY := Lib.hid hbY
  have HYL := Lib.hid hYL
  have HLB := Lib.hid hLB
  clear hY hbY hYL hLB
  rw [show #[.int .i64 old, .slice a n cap, last.args] = #[Value.int .i64 old, .slice a n cap, .agg #[.int .i64 last.s.session, .int .i64 last.s.seq, .int .i64 last.s.snap, .slice last.ra last.s.reads.length last.rc, .slice last.sa last.s.spans.length last.sc, .slice last.wa last.s.writes.length last.wc]] from rfl]
  go_enter Tryz.func3, Tryz.ntmps3
  go_upto_region 1 with fail
  rw [← HY.out, ← HLB.out]
  clear HY
  go_wp2_with fail
  refine (HSO.out _).mono ?_
  rintro e w1 ⟨rfl, hb1⟩
  have hB1 := below_then HBY.out hb1
  have hL1 := (hb1.block LB (lt_of_block HYL.out)).trans HYL.out
  have HB1 := Lib.hid hB1
  have HL1 := Lib.hid hL1
  clear hb1 hB1 hL1 HSO HBY HYL
  go_wp2_with fail
  refine (HN1.out _).mono ?_
  rintro e w2 ⟨A1, κ1, rfl, hA1, hb2, hκ1, hC1⟩
  have hn2 := new_any κ1 30 32 64 w2
  have HB2 := Lib.hid (below_then HB1.out hb2)
  have HL2 : Hid (w2.heap[LB]? = _) := (hb2.block LB (lt_of_block HL1.out)).trans HL1.out
  have HK1 : Hid (∀ g, g ≤ LB → κ1 g = 0) := fun g hg => hκ1 g (Nat.lt_of_le_of_lt hg (lt_of_block HL1.out))
  have HC1 := Lib.hid hC1
  have HN2 := Lib.hid hn2
  clear hA1 hb2 hκ1 hC1 hn2 HN1
  go_wp2_with fail
  refine HN2.out.mono ?_
  rintro e w3 ⟨A2, κ2, rfl, hA2, hb3, hκ2, hC2⟩
  have hcc : Chg (fun _ => False) κ1 κ2 w2 w3 := ⟨hb3.os, hb3.tape, hb3.output, hb3.size, hκ2, fun g hg _ => hb3.block g hg⟩
  have hsim0 : Sim (newP 1 old) (newP 32 64) := ⟨newP_ok _ _, newP_ok _ _, rfl, rfl, rfl, rfl, rfl, rfl, rfl, ⟨[], [], rfl, trivial, fun _ h => absurd h List.not_mem_nil⟩, fun i t h => by simp [newP] at h, rfl⟩
  have hTW : Two w κ2 A1 A2 LB last w3 (newP 1 old) (newP 32 64) 0 :=
    ⟨hsim0, rfl, HC1.out.chg hcc (fun _ h => h.elim), hC2, below_then HB2.out hb3, fun g hg => (hκ2 g (Nat.lt_of_lt_of_le hg HB2.out.size)).trans (HK1.out g (by rw [HLB.out]; omega)), (hb3.block LB (lt_of_block HL2.out)).trans HL2.out, (hκ2 LB (lt_of_block HL2.out)).trans (HK1.out LB (Nat.le_refl _))⟩
  have HT0 := Lib.hid hTW
  clear hA2 hb3 hκ2 hC2 hcc hsim0 hTW HN2 HC1 HK1 HL2 HB2 HL1 HB1
  go_upto_block 0 with fail
  go_cut [] (fun wx => ∃ (κ : Nat → Nat) (less more : CertV) (nn : Nat), nn ≤ 30 ∧ Hid (Two w κ A1 A2 LB last wx less more nn))
  case first =>
    go_wp2_with fail
    go_loopg [9, 29] n (fun g s9 s29 wx => ∃ (k nn : Nat) (κ : Nat → Nat) (less more : CertV), s9 = .int .i64 nn ∧ s29 = .int .i64 k ∧ k ≤ n ∧ nn ≤ 30 ∧ g = n - k ∧ Hid (Two w κ A1 A2 LB last wx less more nn))
    case atStart => exact ⟨0, 0, κ2, _, _, rfl, rfl, Nat.zero_le _, by omega, rfl, HT0.out⟩
    case round =>
      obtain ⟨k, nn, κ, less, more, rfl, rfl, hk, hnn, rfl, HT⟩ := hrel
      clear HT0
      have hk0 : (0 : Int) ≤ (k : Int) := by omega
      have hnat : ((k : Int)).toNat = k := by omega
      by_cases hlt : k < n
      · obtain ⟨m, hm⟩ : ∃ m, subs[k]? = some m := ⟨_, List.getElem?_eq_getElem (by rw [HLEN.out]; exact hlt)⟩
        have HM := Lib.hid (HOK.out m (List.mem_of_getElem? hm))
        obtain ⟨b, off, rfl, q0, q1, q2, q3, q4, q5⟩ := sub_at (HROW.out.below HT.out.below) HLEN.out k hlt m hm
        have hkn : (k : Int) < (n : Int) := by omega
        obtain ⟨XB, hXB⟩ : ∃ XB, XB = wr.heap.size := ⟨_, rfl⟩
        obtain ⟨X, hX⟩ : ∃ X, X = wr.alloc (.cells #[.int .i64 m.s.session, .int .i64 m.s.seq, .int .i64 m.s.snap, .slice m.ra m.s.reads.length m.rc, .slice m.sa m.s.spans.length m.sc, .slice m.wa m.s.writes.length m.wc] 26) := ⟨_, rfl⟩
        have hbX : Below wr.heap.size wr X := hX ▸ below_alloc (Below.refl _ _) _
        have HXB : Hid (X.heap[XB]? = some (.cells #[.int .i64 m.s.session, .int .i64 m.s.seq, .int .i64 m.s.snap, .slice m.ra m.s.reads.length m.rc, .slice m.sa m.s.spans.length m.sc, .slice m.wa m.s.writes.length m.wc] 26 (0, 0))) := hXB ▸ hX ▸ heap_alloc_new wr _
        have HT1 := Lib.hid (HT.out.chg0 (chg_tint (i := 0) hbX))
        have HC1 : Hid (tint wr κ 0 XB = 0) := tint_new (by omega)
        have HLX : Hid (XB ≠ LB ∧ w.heap.size ≤ XB) := ⟨by have := lt_of_block HT.out.last; omega, by have := HT.out.below.size; omega⟩
        obtain ⟨κ', hκ'⟩ : ∃ κ', κ' = tint wr κ 0 := ⟨_, rfl⟩
        rw [← hκ'] at HT1 HC1
        clear hκ' hbX HT hm
        have HX := Lib.hid hX
        have HXE := Lib.hid hXB
        clear hX hXB
        go_upto_region 10 with fail
        rw [← HX.out, ← HXE.out]
        clear HX HXE q0 q1 q2 q3 q4 q5
        obtain ⟨_, _, c2, _, _, _⟩ := six_cells HXB.out
        obtain ⟨CC, hCC⟩ : ∃ CC : Bool, CC = (decide (m.s.snap < 0) && decide (-50 < m.s.snap)) := ⟨_, rfl⟩
        go_cut [40] (fun s40 wx => s40 = .bool CC ∧ X = wx)
        case first =>
          by_cases h1 : m.s.snap < 0
          · by_cases h2 : -50 < m.s.snap
            · go_wp2_with fail
              go_meet
              exact ⟨by rw [hCC, decide_eq_true h1, decide_eq_true h2]; rfl, rfl⟩
            · go_wp2_with fail
              go_meet
              exact ⟨by rw [hCC, decide_eq_true h1, decide_eq_false (by omega)]; rfl, rfl⟩
          · go_wp2_with fail
            go_meet
            exact ⟨by rw [hCC, decide_eq_false (by omega)]; rfl, rfl⟩
        case rest =>
          obtain ⟨rfl, rfl⟩ := hcut
          have HSN : Hid (adjI less.count m.s.snap = if CC = true then max (less.count + 1 + m.s.snap) 0 else m.s.snap) := by
            show _ = _
            rw [hCC]
            unfold adjI
            by_cases h1 : m.s.snap < 0 <;> by_cases h2 : -50 < m.s.snap <;> simp [h1, h2]
          have hcount := HT1.out.sim.lok.count
          have hcn := fun W => count_any κ' 10 A1 less W
          go_upto_if 40 with fail
          go_cut [] (fun wy => X.grownBy wy (some XB) ∧ wy.heap[XB]? = some (.cells #[.int .i64 m.s.session, .int .i64 m.s.seq, .int .i64 (adjI less.count m.s.snap), .slice m.ra m.s.reads.length m.rc, .slice m.sa m.s.spans.length m.sc, .slice m.wa m.s.writes.length m.wc] 26 (0, 0)))
          case first =>
            cases CC with
            | false =>
              have HS2 : Hid (adjI less.count m.s.snap = m.s.snap) := by show _ = _; rw [HSN.out]; rfl
              clear hCC HSN
              go_wp2_with fail
              go_meet
              exact ⟨grown_refl _ _, by rw [HS2.out]; exact HXB.out⟩
            | true =>
              have hs : m.s.snap < 0 ∧ -50 < m.s.snap := by
                have := hCC.symm
                simpa using this
              have HS2 : Hid (adjI less.count m.s.snap = max (less.count + 1 + m.s.snap) 0) := by show _ = _; rw [HSN.out]; rfl
              clear hCC HSN
              have f2 : X.frozen? ⟨XB, 2, none⟩ = false := by have h := HXB.out; simp [World.frozen?, h]
              go_upto_region 11 with fail
              refine wp_region_noPanic ?_
              refine wp_region_held_drew (S := (fun _ => True)) (by kernel_rfl) ?_ (fun hHeld0 => ?_)
              · trivial
              refine wpAnyH_take (i := 0) (oi := _) (v := ?_) rfl (by kernel_rfl) (by kernel_rfl) (by kernel_rfl) (fun _ _ _ h => h) (Or.inl ⟨by kernel_rfl, ?_⟩) (by assumption) ?_
              rotate_left
              · intro wH hSw; (try dsimp only at hSw); go_simp <;> with_reducible rfl
              (try simp only [Act.put]); (try simp only [List.setIfInBounds_toArray]); (try simp only [List.set])
              refine wpAnyH_take (i := 3) (oi := _) (v := ?_) rfl (by kernel_rfl) (by kernel_rfl) (by kernel_rfl) (fun _ _ _ h => h) (Or.inl ⟨by kernel_rfl, ?_⟩) (by assumption) ?_
              rotate_left
              · intro wH hSw; (try dsimp only at hSw); go_simp <;> with_reducible rfl
              (try simp only [Act.put]); (try simp only [List.setIfInBounds_toArray]); (try simp only [List.set])
              refine wpAnyH_ready (rs := [1, 4]) (by kernel_rfl) (by simp) ?_
              refine AllReadyH.cons (o := _) rfl (fun K hK => ?_) (AllReadyH.cons (o := _) rfl (fun K hK => ?_) AllReadyH.nil)
              · skip
                go_simp
                refine (hcn _ (HT1.out.less.chg (Chg.of_below (J := fun _ => False) (Below.refl _ _)).drew (fun _ h => h.elim))).mono ?_
                rintro e w1 ⟨rfl, rfl⟩
                go_wp2_with fail
                refine hK.out _ _ ?_ (fun hHeld1 => ?_)
                · trivial
                clear hK K hHeld0
                (try simp only [Act.put]); (try simp only [List.setIfInBounds_toArray]); (try simp only [List.set])
                refine wpAnyH_take (i := 2) (oi := _) (v := ?_) rfl (by kernel_rfl) (by kernel_rfl) (by kernel_rfl) (fun _ _ _ h => h) (Or.inl ⟨by kernel_rfl, ?_⟩) (by assumption) ?_
                rotate_left
                · intro wH hSw; (try dsimp only at hSw); go_simp <;> with_reducible rfl
                (try simp only [List.getElem_toArray]); (try simp only [List.getElem_cons_succ]); (try simp only [List.getElem_cons_zero]); (try simp only [Act.put]); (try simp only [List.setIfInBounds_toArray]); (try simp only [List.set])
                refine wpAnyH_ready (rs := [4]) (by kernel_rfl) (by simp) ?_
                refine AllReadyH.cons (o := _) rfl (fun K hK => ?_) AllReadyH.nil
                go_simp
                refine hK.out _ _ ?_ (fun hHeld2 => ?_)
                · trivial
                clear hK K hHeld1
                (try simp only [Act.put]); (try simp only [List.setIfInBounds_toArray]); (try simp only [List.set])
                refine wpAnyH_take (i := 5) (oi := _) (v := ?_) rfl (by kernel_rfl) (by kernel_rfl) (by kernel_rfl) (fun _ _ _ h => h) (Or.inl ⟨by kernel_rfl, ?_⟩) (by assumption) ?_
                rotate_left
                · intro wH hSw; (try dsimp only at hSw); go_simp <;> with_reducible rfl
                (try simp only [List.getElem_toArray]); (try simp only [List.getElem_cons_succ]); (try simp only [List.getElem_cons_zero]); (try simp only [Act.put]); (try simp only [List.setIfInBounds_toArray]); (try simp only [List.set])
                refine wpAnyH_take (i := 6) (oi := _) (v := ?_) rfl (by kernel_rfl) (by kernel_rfl) (by kernel_rfl) (fun _ _ _ h => h) (Or.inl ⟨by kernel_rfl, ?_⟩) (by assumption) ?_
                rotate_left
                · intro wH hSw; (try dsimp only at hSw); go_simp <;> with_reducible rfl
                (try simp only [List.getElem_toArray]); (try simp only [List.getElem_cons_succ]); (try simp only [List.getElem_cons_zero]); (try simp only [Act.put]); (try simp only [List.setIfInBounds_toArray]); (try simp only [List.set])
                refine wpAnyH_take (i := 7) (oi := _) (v := ?_) rfl (by kernel_rfl) (by kernel_rfl) (by kernel_rfl) (fun _ _ _ h => h) (Or.inl ⟨by kernel_rfl, ?_⟩) (by assumption) ?_
                rotate_left
                · intro wH hSw; (try dsimp only at hSw); go_simp <;> with_reducible rfl
                (try simp only [Act.put]); (try simp only [List.setIfInBounds_toArray]); (try simp only [List.set])
                refine wpAnyH_ready (rs := [8]) (by kernel_rfl) (by simp) ?_
                refine AllReadyH.cons (o := _) rfl (fun K hK => ?_) AllReadyH.nil
                go_simp
                refine hK.out _ _ ?_ (fun hHeld3 => ?_)
                · trivial
                clear hK K hHeld2
                (try simp only [Act.put]); (try simp only [List.setIfInBounds_toArray]); (try simp only [List.set])
                refine wpAnyH_done (by kernel_rfl) ?_ _
                refine NoPanic.normal ?_
                go_wp2_with fail
                go_meet
                exact ⟨drew_grown (grown_set _ _ _ _), set_snap HXB.out ((adj_wrap hcount hs).trans HS2.out.symm)⟩
              · skip
                go_simp
                refine hK.out _ _ ?_ (fun hHeld4 => ?_)
                · trivial
                clear hK K hHeld0
                (try simp only [Act.put]); (try simp only [List.setIfInBounds_toArray]); (try simp only [List.set])
                refine wpAnyH_ready (rs := [1]) (by kernel_rfl) (by simp) ?_
                refine AllReadyH.cons (o := _) rfl (fun K hK => ?_) AllReadyH.nil
                go_simp
                refine (hcn _ (HT1.out.less.chg (Chg.of_below (J := fun _ => False) (Below.refl _ _)).drew (fun _ h => h.elim))).mono ?_
                rintro e w1 ⟨rfl, rfl⟩
                go_wp2_with fail
                refine hK.out _ _ ?_ (fun hHeld5 => ?_)
                · trivial
                clear hK K hHeld4
                (try simp only [Act.put]); (try simp only [List.setIfInBounds_toArray]); (try simp only [List.set])
                refine wpAnyH_take (i := 2) (oi := _) (v := ?_) rfl (by kernel_rfl) (by kernel_rfl) (by kernel_rfl) (fun _ _ _ h => h) (Or.inl ⟨by kernel_rfl, ?_⟩) (by assumption) ?_
                rotate_left
                · intro wH hSw; (try dsimp only at hSw); go_simp <;> with_reducible rfl
                (try simp only [List.getElem_toArray]); (try simp only [List.getElem_cons_succ]); (try simp only [List.getElem_cons_zero]); (try simp only [Act.put]); (try simp only [List.setIfInBounds_toArray]); (try simp only [List.set])
                refine wpAnyH_take (i := 5) (oi := _) (v := ?_) rfl (by kernel_rfl) (by kernel_rfl) (by kernel_rfl) (fun _ _ _ h => h) (Or.inl ⟨by kernel_rfl, ?_⟩) (by assumption) ?_
                rotate_left
                · intro wH hSw; (try dsimp only at hSw); go_simp <;> with_reducible rfl
                (try simp only [List.getElem_toArray]); (try simp only [List.getElem_cons_succ]); (try simp only [List.getElem_cons_zero]); (try simp only [Act.put]); (try simp only [List.setIfInBounds_toArray]); (try simp only [List.set])
                refine wpAnyH_take (i := 6) (oi := _) (v := ?_) rfl (by kernel_rfl) (by kernel_rfl) (by kernel_rfl) (fun _ _ _ h => h) (Or.inl ⟨by kernel_rfl, ?_⟩) (by assumption) ?_
                rotate_left
                · intro wH hSw; (try dsimp only at hSw); go_simp <;> with_reducible rfl
                (try simp only [List.getElem_toArray]); (try simp only [List.getElem_cons_succ]); (try simp only [List.getElem_cons_zero]); (try simp only [Act.put]); (try simp only [List.setIfInBounds_toArray]); (try simp only [List.set])
                refine wpAnyH_take (i := 7) (oi := _) (v := ?_) rfl (by kernel_rfl) (by kernel_rfl) (by kernel_rfl) (fun _ _ _ h => h) (Or.inl ⟨by kernel_rfl, ?_⟩) (by assumption) ?_
                rotate_left
                · intro wH hSw; (try dsimp only at hSw); go_simp <;> with_reducible rfl
                (try simp only [Act.put]); (try simp only [List.setIfInBounds_toArray]); (try simp only [List.set])
                refine wpAnyH_ready (rs := [8]) (by kernel_rfl) (by simp) ?_
                refine AllReadyH.cons (o := _) rfl (fun K hK => ?_) AllReadyH.nil
                go_simp
                refine hK.out _ _ ?_ (fun hHeld6 => ?_)
                · trivial
                clear hK K hHeld5
                (try simp only [Act.put]); (try simp only [List.setIfInBounds_toArray]); (try simp only [List.set])
                refine wpAnyH_done (by kernel_rfl) ?_ _
                refine NoPanic.normal ?_
                go_wp2_with fail
                go_meet
                exact ⟨drew_grown (grown_set _ _ _ _), set_snap HXB.out ((adj_wrap hcount hs).trans HS2.out.symm)⟩
          case rest =>
            obtain ⟨HG0, HC0⟩ := hcut
            obtain ⟨W, hW⟩ : ∃ W, W = wc := ⟨_, rfl⟩
            rw [← hW] at HG0 HC0
            rw [← hW]
            clear hW
            have HT2 := Lib.hid (HT1.out.loc HC1.out HLX.out.2 HG0 HLX.out.1)
            have HX2 := Lib.hid HC0
            obtain ⟨SN, hSN⟩ : ∃ SN, SN = adjI less.count m.s.snap := ⟨_, rfl⟩
            rw [← hSN] at HX2
            clear hSN HG0 HC0 HT1 HXB HSN hcount hcn hCC c2
            obtain ⟨c0, c1, c2, c3, c4, c5⟩ := six_cells HX2.out
            by_cases h30 : 30 ≤ nn
            · go_wp2_with fail
              go_meet
              exact ⟨κ', less, more, nn, hnn, HT2⟩
            · have hmk : (m.snapTo SN).ok W := (HM.out.snapTo SN).below HT2.out.below
              have haw := fun k (h : 0 < k) => away0 (κ := κ') (HM.out.snapTo SN) HT2.out.old k h
              have hd := decide_any κ' 10 A1 less HT2.out.sim.lok (m.snapTo SN) W HT2.out.less hmk (haw 10 (by decide))
              have HD := Lib.hid hd
              have HAW := Lib.hid haw
              clear hd haw hmk
              have hn30 : ¬ (nn : Int) ≥ 30 := by omega
              go_wp2_with fail
              refine HD.out.mono ?_
              rintro e w5 ⟨κ5, less', code, num, rfl, hc5, hC5, hst⟩
              have hs5 := HT2.out.side.step1 hc5 hC5
              have hX5 := (hc5.block XB (lt_of_block HX2.out) (by rw [HC1.out]; omega)).trans HX2.out
              have hxc : κ5 XB = 0 := (hc5.paint XB (lt_of_block HX2.out)).trans HC1.out
              obtain ⟨VB, hVB⟩ : ∃ VB, VB = w5.heap.size := ⟨_, rfl⟩
              obtain ⟨V, hV⟩ : ∃ V, V = w5.alloc (.cells #[.int .i64 code, .int .i64 num] 35) := ⟨_, rfl⟩
              have hbV : Below w5.heap.size w5 V := hV ▸ below_alloc (Below.refl _ _) _
              have HVB : Hid (V.heap[VB]? = some (.cells #[.int .i64 code, .int .i64 num] 35 (0, 0))) := hVB ▸ hV ▸ heap_alloc_new w5 _
              have HXV : Hid (V.heap[XB]? = some (.cells #[.int .i64 m.s.session, .int .i64 m.s.seq, .int .i64 SN, .slice m.ra m.s.reads.length m.rc, .slice m.sa m.s.spans.length m.sc, .slice m.wa m.s.writes.length m.wc] 26 (0, 0))) := (hbV.block XB (lt_of_block hX5)).trans hX5
              have HS := Lib.hid (hs5.chg0 (chg_tint (i := 0) hbV))
              have HCX : Hid (tint w5 κ5 0 XB = 0) := (tint_old (lt_of_block hX5)).trans hxc
              have HCV : Hid (tint w5 κ5 0 VB = 0) := tint_new (by omega)
              obtain ⟨κ6, hκ6⟩ : ∃ κ6, κ6 = tint w5 κ5 0 := ⟨_, rfl⟩
              rw [← hκ6] at HS HCX HCV
              have HV := Lib.hid hV
              have HVE := Lib.hid hVB
              have HST := Lib.hid hst
              have HSIM := Lib.hid HT2.out.sim
              have HNN := Lib.hid HT2.out.nn
              clear hκ6 hbV hX5 hxc hs5 hc5 hC5 hst hV hVB HT2 HX2 c0 c1 c2 c3 c4 c5 HD
              go_upto_region 14 with fail
              rw [← HV.out, ← HVE.out]
              clear HV HVE
              obtain ⟨v0, v1⟩ := two_cells HVB.out
              by_cases hcode : code = 0
              · subst hcode
                have hmk : (m.snapTo SN).ok V := (HM.out.snapTo SN).below HS.out.below
                have hrf := HSIM.out.refuse hmk.words HST.out.1.symm
                have hd := decide_any κ6 30 A2 more HSIM.out.mok (m.snapTo SN) V.drew (HS.out.more.chg (Chg.refl (fun _ => False) _ _).drew (fun _ h => h.elim)) (hmk.below (Below.refl _ _).drew) (away0 (HM.out.snapTo SN) HS.out.old 30 (by decide))
                have HD := Lib.hid hd
                have HRF := Lib.hid hrf
                clear hd hrf hmk HAW
                obtain ⟨x0, x1, x2, x3, x4, x5⟩ := six_cells HXV.out
                go_upto_region 16 with fail
                refine wp_region_noPanic ?_
                refine wp_region_held_drew (S := (fun _ => True)) (by kernel_rfl) ?_ (fun hHeld0 => ?_)
                · trivial
                refine wpAnyH_take (i := 0) (oi := _) (v := ?_) rfl (by kernel_rfl) (by kernel_rfl) (by kernel_rfl) (fun _ _ _ h => h) (Or.inl ⟨by kernel_rfl, ?_⟩) (by assumption) ?_
                rotate_left
                · intro wH hSw; (try dsimp only at hSw); go_simp <;> with_reducible rfl
                (try simp only [Act.put]); (try simp only [List.setIfInBounds_toArray]); (try simp only [List.set])
                refine wpAnyH_ready (rs := [1, 3]) (by kernel_rfl) (by simp) ?_
                refine AllReadyH.cons (o := _) rfl (fun K hK => ?_) (AllReadyH.cons (o := _) rfl (fun K hK => ?_) AllReadyH.nil)
                · skip
                  go_simp
                  refine hK.out _ _ ?_ (fun hHeld1 => ?_)
                  · trivial
                  clear hK K hHeld0
                  (try simp only [Act.put]); (try simp only [List.setIfInBounds_toArray]); (try simp only [List.set])
                  refine wpAnyH_ready (rs := [2, 3]) (by kernel_rfl) (by simp) ?_
                  refine AllReadyH.cons (o := _) rfl (fun K hK => ?_) (AllReadyH.cons (o := _) rfl (fun K hK => ?_) AllReadyH.nil)
                  · skip
                    go_simp
                    refine HD.out.mono ?_
                    rintro e w6 ⟨κ7, more', code2, num2, rfl, hc6, hC6, hst6⟩
                    have HS6 := Lib.hid ((HS.out.chg0 (Chg.refl (fun _ => False) _ _).drew).step2 hc6 hC6)
                    have HX6 : Hid (w6.heap[XB]? = some (.cells #[.int .i64 m.s.session, .int .i64 m.s.seq, .int .i64 SN, .slice m.ra m.s.reads.length m.rc, .slice m.sa m.s.spans.length m.sc, .slice m.wa m.s.writes.length m.wc] 26 (0, 0))) := (hc6.block XB (lt_of_block HXV.out) (by rw [HCX.out]; omega)).trans HXV.out
                    have HV6 : Hid (w6.heap[VB]? = _) := (hc6.block VB (lt_of_block HVB.out) (by rw [HCV.out]; omega)).trans HVB.out
                    have hcode2 : code2 = 0 := hst6.1.trans HRF.out
                    subst hcode2
                    obtain ⟨hnum, hsim, hlen⟩ := HSIM.out.commit (HM.out.snapTo SN).words HST.out hst6 (by rw [HNN.out]; omega)
                    subst hnum
                    have HSIM2 := Lib.hid hsim
                    have HNN2 : Hid (more'.recs.length = nn + 1) := by show _ = _; rw [hlen, HNN.out]
                    obtain ⟨y0, y1⟩ := two_cells HV6.out
                    clear hc6 hC6 hst6 hsim hlen HD HS HSIM HXV HVB HST HNN
                    go_wp2_with fail
                    refine hK.out _ _ ?_ (fun hHeld2 => ?_)
                    · trivial
                    clear hK K hHeld1
                    (try simp only [Act.put]); (try simp only [List.setIfInBounds_toArray]); (try simp only [List.set])
                    refine wpAnyH_ready (rs := [3]) (by kernel_rfl) (by simp) ?_
                    refine AllReadyH.cons (o := _) rfl (fun K hK => ?_) AllReadyH.nil
                    go_simp
                    refine hK.out _ _ ?_ (fun hHeld3 => ?_)
                    · trivial
                    clear hK K hHeld2
                    (try simp only [Act.put]); (try simp only [List.setIfInBounds_toArray]); (try simp only [List.set])
                    refine wpAnyH_ready (rs := [4]) (by kernel_rfl) (by simp) ?_
                    refine AllReadyH.cons (o := _) rfl (fun K hK => ?_) AllReadyH.nil
                    go_simp
                    refine hK.out _ _ ?_ (fun hHeld4 => ?_)
                    · trivial
                    clear hK K hHeld3
                    (try simp only [Act.put]); (try simp only [List.setIfInBounds_toArray]); (try simp only [List.set])
                    refine wpAnyH_done (by kernel_rfl) ?_ _
                    refine NoPanic.normal ?_
                    have hTW2 := HS6.out.two HSIM2.out HNN2.out
                    have hneq : ((0 : Int) == 0 && num == num) = true := by simp
                    try rw [hneq]
                    go_wp2_with fail
                    go_roundg (n - (k + 1))
                    case measure => omega
                    case rel => exact ⟨k + 1, nn + 1, κ7, _, more', by go_num, by go_num, by omega, by omega, rfl, hTW2⟩
                  · skip
                    go_simp
                    refine hK.out _ _ ?_ (fun hHeld5 => ?_)
                    · trivial
                    clear hK K hHeld1
                    (try simp only [Act.put]); (try simp only [List.setIfInBounds_toArray]); (try simp only [List.set])
                    refine wpAnyH_ready (rs := [2]) (by kernel_rfl) (by simp) ?_
                    refine AllReadyH.cons (o := _) rfl (fun K hK => ?_) AllReadyH.nil
                    go_simp
                    refine HD.out.mono ?_
                    rintro e w6 ⟨κ7, more', code2, num2, rfl, hc6, hC6, hst6⟩
                    have HS6 := Lib.hid ((HS.out.chg0 (Chg.refl (fun _ => False) _ _).drew).step2 hc6 hC6)
                    have HX6 : Hid (w6.heap[XB]? = some (.cells #[.int .i64 m.s.session, .int .i64 m.s.seq, .int .i64 SN, .slice m.ra m.s.reads.length m.rc, .slice m.sa m.s.spans.length m.sc, .slice m.wa m.s.writes.length m.wc] 26 (0, 0))) := (hc6.block XB (lt_of_block HXV.out) (by rw [HCX.out]; omega)).trans HXV.out
                    have HV6 : Hid (w6.heap[VB]? = _) := (hc6.block VB (lt_of_block HVB.out) (by rw [HCV.out]; omega)).trans HVB.out
                    have hcode2 : code2 = 0 := hst6.1.trans HRF.out
                    subst hcode2
                    obtain ⟨hnum, hsim, hlen⟩ := HSIM.out.commit (HM.out.snapTo SN).words HST.out hst6 (by rw [HNN.out]; omega)
                    subst hnum
                    have HSIM2 := Lib.hid hsim
                    have HNN2 : Hid (more'.recs.length = nn + 1) := by show _ = _; rw [hlen, HNN.out]
                    obtain ⟨y0, y1⟩ := two_cells HV6.out
                    clear hc6 hC6 hst6 hsim hlen HD HS HSIM HXV HVB HST HNN
                    go_wp2_with fail
                    refine hK.out _ _ ?_ (fun hHeld6 => ?_)
                    · trivial
                    clear hK K hHeld5
                    (try simp only [Act.put]); (try simp only [List.setIfInBounds_toArray]); (try simp only [List.set])
                    refine wpAnyH_ready (rs := [4]) (by kernel_rfl) (by simp) ?_
                    refine AllReadyH.cons (o := _) rfl (fun K hK => ?_) AllReadyH.nil
                    go_simp
                    refine hK.out _ _ ?_ (fun hHeld7 => ?_)
                    · trivial
                    clear hK K hHeld6
                    (try simp only [Act.put]); (try simp only [List.setIfInBounds_toArray]); (try simp only [List.set])
                    refine wpAnyH_done (by kernel_rfl) ?_ _
                    refine NoPanic.normal ?_
                    have hTW2 := HS6.out.two HSIM2.out HNN2.out
                    have hneq : ((0 : Int) == 0 && num == num) = true := by simp
                    try rw [hneq]
                    go_wp2_with fail
                    go_roundg (n - (k + 1))
                    case measure => omega
                    case rel => exact ⟨k + 1, nn + 1, κ7, _, more', by go_num, by go_num, by omega, by omega, rfl, hTW2⟩
                · skip
                  go_simp
                  refine hK.out _ _ ?_ (fun hHeld8 => ?_)
                  · trivial
                  clear hK K hHeld0
                  (try simp only [Act.put]); (try simp only [List.setIfInBounds_toArray]); (try simp only [List.set])
                  refine wpAnyH_ready (rs := [1]) (by kernel_rfl) (by simp) ?_
                  refine AllReadyH.cons (o := _) rfl (fun K hK => ?_) AllReadyH.nil
                  go_simp
                  refine hK.out _ _ ?_ (fun hHeld9 => ?_)
                  · trivial
                  clear hK K hHeld8
                  (try simp only [Act.put]); (try simp only [List.setIfInBounds_toArray]); (try simp only [List.set])
                  refine wpAnyH_ready (rs := [2]) (by kernel_rfl) (by simp) ?_
                  refine AllReadyH.cons (o := _) rfl (fun K hK => ?_) AllReadyH.nil
                  go_simp
                  refine HD.out.mono ?_
                  rintro e w6 ⟨κ7, more', code2, num2, rfl, hc6, hC6, hst6⟩
                  have HS6 := Lib.hid ((HS.out.chg0 (Chg.refl (fun _ => False) _ _).drew).step2 hc6 hC6)
                  have HX6 : Hid (w6.heap[XB]? = some (.cells #[.int .i64 m.s.session, .int .i64 m.s.seq, .int .i64 SN, .slice m.ra m.s.reads.length m.rc, .slice m.sa m.s.spans.length m.sc, .slice m.wa m.s.writes.length m.wc] 26 (0, 0))) := (hc6.block XB (lt_of_block HXV.out) (by rw [HCX.out]; omega)).trans HXV.out
                  have HV6 : Hid (w6.heap[VB]? = _) := (hc6.block VB (lt_of_block HVB.out) (by rw [HCV.out]; omega)).trans HVB.out
                  have hcode2 : code2 = 0 := hst6.1.trans HRF.out
                  subst hcode2
                  obtain ⟨hnum, hsim, hlen⟩ := HSIM.out.commit (HM.out.snapTo SN).words HST.out hst6 (by rw [HNN.out]; omega)
                  subst hnum
                  have HSIM2 := Lib.hid hsim
                  have HNN2 : Hid (more'.recs.length = nn + 1) := by show _ = _; rw [hlen, HNN.out]
                  obtain ⟨y0, y1⟩ := two_cells HV6.out
                  clear hc6 hC6 hst6 hsim hlen HD HS HSIM HXV HVB HST HNN
                  go_wp2_with fail
                  refine hK.out _ _ ?_ (fun hHeld10 => ?_)
                  · trivial
                  clear hK K hHeld9
                  (try simp only [Act.put]); (try simp only [List.setIfInBounds_toArray]); (try simp only [List.set])
                  refine wpAnyH_ready (rs := [4]) (by kernel_rfl) (by simp) ?_
                  refine AllReadyH.cons (o := _) rfl (fun K hK => ?_) AllReadyH.nil
                  go_simp
                  refine hK.out _ _ ?_ (fun hHeld11 => ?_)
                  · trivial
                  clear hK K hHeld10
                  (try simp only [Act.put]); (try simp only [List.setIfInBounds_toArray]); (try simp only [List.set])
                  refine wpAnyH_done (by kernel_rfl) ?_ _
                  refine NoPanic.normal ?_
                  have hTW2 := HS6.out.two HSIM2.out HNN2.out
                  have hneq : ((0 : Int) == 0 && num == num) = true := by simp
                  try rw [hneq]
                  go_wp2_with fail
                  go_roundg (n - (k + 1))
                  case measure => omega
                  case rel => exact ⟨k + 1, nn + 1, κ7, _, more', by go_num, by go_num, by omega, by omega, rfl, hTW2⟩
              · obtain rfl : less' = less := by
                  rcases HST.out.2 with ⟨_, _, h⟩ | ⟨h, _⟩
                  · exact h
                  · exact absurd h hcode
                go_wp2_with fail
                go_roundg (n - (k + 1))
                case measure => omega
                case rel => exact ⟨k + 1, nn, κ6, _, more, rfl, by go_num, by omega, hnn, rfl, HS.out.two HSIM.out HNN.out⟩
      · obtain rfl : k = n := by omega
        go_wp2_with fail
        go_meet
        exact ⟨κ, less, more, nn, hnn, HT⟩
  case rest =>
    obtain ⟨κ, less, more, nn, hnn, HT⟩ := hcut
    obtain ⟨X, hX⟩ : ∃ X, X = wc := ⟨_, rfl⟩
    rw [← hX] at HT
    rw [← hX]
    clear hX HT0
    have HXB : Hid (X.heap[LB]? = some (.cells #[.int .i64 last.s.session, .int .i64 last.s.seq, .int .i64 last.s.snap, .slice last.ra last.s.reads.length last.rc, .slice last.sa last.s.spans.length last.sc, .slice last.wa last.s.writes.length last.wc] 26 (0, 0))) := HT.out.last
    obtain ⟨_, _, c2, _, _, _⟩ := six_cells HXB.out
    obtain ⟨CC, hCC⟩ : ∃ CC : Bool, CC = (decide (last.s.snap < 0) && decide (-50 < last.s.snap)) := ⟨_, rfl⟩
    go_upto_region 19 with fail
    go_cut [72] (fun s72 wx => s72 = .bool CC ∧ X = wx)
    case first =>
      by_cases h1 : last.s.snap < 0
      · by_cases h2 : -50 < last.s.snap
        · go_wp2_with fail
          go_meet
          exact ⟨by rw [hCC, decide_eq_true h1, decide_eq_true h2]; rfl, rfl⟩
        · go_wp2_with fail
          go_meet
          exact ⟨by rw [hCC, decide_eq_true h1, decide_eq_false (by omega)]; rfl, rfl⟩
      · go_wp2_with fail
        go_meet
        exact ⟨by rw [hCC, decide_eq_false (by omega)]; rfl, rfl⟩
    case rest =>
      obtain ⟨rfl, rfl⟩ := hcut
      have HSN : Hid (adjI less.count last.s.snap = if CC = true then max (less.count + 1 + last.s.snap) 0 else last.s.snap) := by
        show _ = _
        rw [hCC]
        unfold adjI
        by_cases h1 : last.s.snap < 0 <;> by_cases h2 : -50 < last.s.snap <;> simp [h1, h2]
      have hcount := HT.out.sim.lok.count
      have hcn := fun W => count_any κ 10 A1 less W
      go_upto_if 72 with fail
      go_cut [] (fun wy => X.grownBy wy (some LB) ∧ wy.heap[LB]? = some (.cells #[.int .i64 last.s.session, .int .i64 last.s.seq, .int .i64 (adjI less.count last.s.snap), .slice last.ra last.s.reads.length last.rc, .slice last.sa last.s.spans.length last.sc, .slice last.wa last.s.writes.length last.wc] 26 (0, 0)))
      case first =>
        cases CC with
        | false =>
          have HS2 : Hid (adjI less.count last.s.snap = last.s.snap) := by show _ = _; rw [HSN.out]; rfl
          clear hCC HSN
          go_wp2_with fail
          go_meet
          exact ⟨grown_refl _ _, by rw [HS2.out]; exact HXB.out⟩
        | true =>
          have hs : last.s.snap < 0 ∧ -50 < last.s.snap := by
            have := hCC.symm
            simpa using this
          have HS2 : Hid (adjI less.count last.s.snap = max (less.count + 1 + last.s.snap) 0) := by show _ = _; rw [HSN.out]; rfl
          clear hCC HSN
          have f2 : X.frozen? ⟨LB, 2, none⟩ = false := by have h := HXB.out; simp [World.frozen?, h]
          go_upto_region 20 with fail
          refine wp_region_noPanic ?_
          refine wp_region_held_drew (S := (fun _ => True)) (by kernel_rfl) ?_ (fun hHeld0 => ?_)
          · trivial
          refine wpAnyH_take (i := 0) (oi := _) (v := ?_) rfl (by kernel_rfl) (by kernel_rfl) (by kernel_rfl) (fun _ _ _ h => h) (Or.inl ⟨by kernel_rfl, ?_⟩) (by assumption) ?_
          rotate_left
          · intro wH hSw; (try dsimp only at hSw); go_simp <;> with_reducible rfl
          (try simp only [Act.put]); (try simp only [List.setIfInBounds_toArray]); (try simp only [List.set])
          refine wpAnyH_take (i := 3) (oi := _) (v := ?_) rfl (by kernel_rfl) (by kernel_rfl) (by kernel_rfl) (fun _ _ _ h => h) (Or.inl ⟨by kernel_rfl, ?_⟩) (by assumption) ?_
          rotate_left
          · intro wH hSw; (try dsimp only at hSw); go_simp <;> with_reducible rfl
          (try simp only [Act.put]); (try simp only [List.setIfInBounds_toArray]); (try simp only [List.set])
          refine wpAnyH_ready (rs := [1, 4]) (by kernel_rfl) (by simp) ?_
          refine AllReadyH.cons (o := _) rfl (fun K hK => ?_) (AllReadyH.cons (o := _) rfl (fun K hK => ?_) AllReadyH.nil)
          · skip
            go_simp
            refine (hcn _ (HT.out.less.chg (Chg.of_below (J := fun _ => False) (Below.refl _ _)).drew (fun _ h => h.elim))).mono ?_
            rintro e w1 ⟨rfl, rfl⟩
            go_wp2_with fail
            refine hK.out _ _ ?_ (fun hHeld1 => ?_)
            · trivial
            clear hK K hHeld0
            (try simp only [Act.put]); (try simp only [List.setIfInBounds_toArray]); (try simp only [List.set])
            refine wpAnyH_take (i := 2) (oi := _) (v := ?_) rfl (by kernel_rfl) (by kernel_rfl) (by kernel_rfl) (fun _ _ _ h => h) (Or.inl ⟨by kernel_rfl, ?_⟩) (by assumption) ?_
            rotate_left
            · intro wH hSw; (try dsimp only at hSw); go_simp <;> with_reducible rfl
            (try simp only [List.getElem_toArray]); (try simp only [List.getElem_cons_succ]); (try simp only [List.getElem_cons_zero]); (try simp only [Act.put]); (try simp only [List.setIfInBounds_toArray]); (try simp only [List.set])
            refine wpAnyH_ready (rs := [4]) (by kernel_rfl) (by simp) ?_
            refine AllReadyH.cons (o := _) rfl (fun K hK => ?_) AllReadyH.nil
            go_simp
            refine hK.out _ _ ?_ (fun hHeld2 => ?_)
            · trivial
            clear hK K hHeld1
            (try simp only [Act.put]); (try simp only [List.setIfInBounds_toArray]); (try simp only [List.set])
            refine wpAnyH_take (i := 5) (oi := _) (v := ?_) rfl (by kernel_rfl) (by kernel_rfl) (by kernel_rfl) (fun _ _ _ h => h) (Or.inl ⟨by kernel_rfl, ?_⟩) (by assumption) ?_
            rotate_left
            · intro wH hSw; (try dsimp only at hSw); go_simp <;> with_reducible rfl
            (try simp only [List.getElem_toArray]); (try simp only [List.getElem_cons_succ]); (try simp only [List.getElem_cons_zero]); (try simp only [Act.put]); (try simp only [List.setIfInBounds_toArray]); (try simp only [List.set])
            refine wpAnyH_take (i := 6) (oi := _) (v := ?_) rfl (by kernel_rfl) (by kernel_rfl) (by kernel_rfl) (fun _ _ _ h => h) (Or.inl ⟨by kernel_rfl, ?_⟩) (by assumption) ?_
            rotate_left
            · intro wH hSw; (try dsimp only at hSw); go_simp <;> with_reducible rfl
            (try simp only [List.getElem_toArray]); (try simp only [List.getElem_cons_succ]); (try simp only [List.getElem_cons_zero]); (try simp only [Act.put]); (try simp only [List.setIfInBounds_toArray]); (try simp only [List.set])
            refine wpAnyH_take (i := 7) (oi := _) (v := ?_) rfl (by kernel_rfl) (by kernel_rfl) (by kernel_rfl) (fun _ _ _ h => h) (Or.inl ⟨by kernel_rfl, ?_⟩) (by assumption) ?_
            rotate_left
            · intro wH hSw; (try dsimp only at hSw); go_simp <;> with_reducible rfl
            (try simp only [Act.put]); (try simp only [List.setIfInBounds_toArray]); (try simp only [List.set])
            refine wpAnyH_ready (rs := [8]) (by kernel_rfl) (by simp) ?_
            refine AllReadyH.cons (o := _) rfl (fun K hK => ?_) AllReadyH.nil
            go_simp
            refine hK.out _ _ ?_ (fun hHeld3 => ?_)
            · trivial
            clear hK K hHeld2
            (try simp only [Act.put]); (try simp only [List.setIfInBounds_toArray]); (try simp only [List.set])
            refine wpAnyH_done (by kernel_rfl) ?_ _
            refine NoPanic.normal ?_
            go_wp2_with fail
            go_meet
            exact ⟨drew_grown (grown_set _ _ _ _), set_snap HXB.out ((adj_wrap hcount hs).trans HS2.out.symm)⟩
          · skip
            go_simp
            refine hK.out _ _ ?_ (fun hHeld4 => ?_)
            · trivial
            clear hK K hHeld0
            (try simp only [Act.put]); (try simp only [List.setIfInBounds_toArray]); (try simp only [List.set])
            refine wpAnyH_ready (rs := [1]) (by kernel_rfl) (by simp) ?_
            refine AllReadyH.cons (o := _) rfl (fun K hK => ?_) AllReadyH.nil
            go_simp
            refine (hcn _ (HT.out.less.chg (Chg.of_below (J := fun _ => False) (Below.refl _ _)).drew (fun _ h => h.elim))).mono ?_
            rintro e w1 ⟨rfl, rfl⟩
            go_wp2_with fail
            refine hK.out _ _ ?_ (fun hHeld5 => ?_)
            · trivial
            clear hK K hHeld4
            (try simp only [Act.put]); (try simp only [List.setIfInBounds_toArray]); (try simp only [List.set])
            refine wpAnyH_take (i := 2) (oi := _) (v := ?_) rfl (by kernel_rfl) (by kernel_rfl) (by kernel_rfl) (fun _ _ _ h => h) (Or.inl ⟨by kernel_rfl, ?_⟩) (by assumption) ?_
            rotate_left
            · intro wH hSw; (try dsimp only at hSw); go_simp <;> with_reducible rfl
            (try simp only [List.getElem_toArray]); (try simp only [List.getElem_cons_succ]); (try simp only [List.getElem_cons_zero]); (try simp only [Act.put]); (try simp only [List.setIfInBounds_toArray]); (try simp only [List.set])
            refine wpAnyH_take (i := 5) (oi := _) (v := ?_) rfl (by kernel_rfl) (by kernel_rfl) (by kernel_rfl) (fun _ _ _ h => h) (Or.inl ⟨by kernel_rfl, ?_⟩) (by assumption) ?_
            rotate_left
            · intro wH hSw; (try dsimp only at hSw); go_simp <;> with_reducible rfl
            (try simp only [List.getElem_toArray]); (try simp only [List.getElem_cons_succ]); (try simp only [List.getElem_cons_zero]); (try simp only [Act.put]); (try simp only [List.setIfInBounds_toArray]); (try simp only [List.set])
            refine wpAnyH_take (i := 6) (oi := _) (v := ?_) rfl (by kernel_rfl) (by kernel_rfl) (by kernel_rfl) (fun _ _ _ h => h) (Or.inl ⟨by kernel_rfl, ?_⟩) (by assumption) ?_
            rotate_left
            · intro wH hSw; (try dsimp only at hSw); go_simp <;> with_reducible rfl
            (try simp only [List.getElem_toArray]); (try simp only [List.getElem_cons_succ]); (try simp only [List.getElem_cons_zero]); (try simp only [Act.put]); (try simp only [List.setIfInBounds_toArray]); (try simp only [List.set])
            refine wpAnyH_take (i := 7) (oi := _) (v := ?_) rfl (by kernel_rfl) (by kernel_rfl) (by kernel_rfl) (fun _ _ _ h => h) (Or.inl ⟨by kernel_rfl, ?_⟩) (by assumption) ?_
            rotate_left
            · intro wH hSw; (try dsimp only at hSw); go_simp <;> with_reducible rfl
            (try simp only [Act.put]); (try simp only [List.setIfInBounds_toArray]); (try simp only [List.set])
            refine wpAnyH_ready (rs := [8]) (by kernel_rfl) (by simp) ?_
            refine AllReadyH.cons (o := _) rfl (fun K hK => ?_) AllReadyH.nil
            go_simp
            refine hK.out _ _ ?_ (fun hHeld6 => ?_)
            · trivial
            clear hK K hHeld5
            (try simp only [Act.put]); (try simp only [List.setIfInBounds_toArray]); (try simp only [List.set])
            refine wpAnyH_done (by kernel_rfl) ?_ _
            refine NoPanic.normal ?_
            go_wp2_with fail
            go_meet
            exact ⟨drew_grown (grown_set _ _ _ _), set_snap HXB.out ((adj_wrap hcount hs).trans HS2.out.symm)⟩
      case rest =>
        obtain ⟨HG0, HC0⟩ := hcut
        obtain ⟨W, hW⟩ : ∃ W, W = wc := ⟨_, rfl⟩
        rw [← hW] at HG0 HC0
        rw [← hW]
        clear hW
        have hcW : Chg (· = 0) κ κ X W := Chg.of_grown HG0 HT.out.col
        have hlW : CertAt W κ 10 A1 less := HT.out.less.chg hcW (fun i hi => by omega)
        have hmW : CertAt W κ 30 A2 more := HT.out.more.chg hcW (fun i hi => by omega)
        have HBW : Hid (Below w.heap.size w W) := ⟨HG0.os.trans HT.out.below.os, HG0.tape.trans HT.out.below.tape, HG0.output.trans HT.out.below.output, Nat.le_trans HT.out.below.size HG0.size, fun g hgl => (HG0.block g (Nat.lt_of_lt_of_le hgl HT.out.below.size) (fun e => by have h1 := Option.some.inj e; have h2 := HLB.out; omega)).trans (HT.out.below.block g hgl)⟩
        have HX2 := Lib.hid HC0
        obtain ⟨SN, hSN⟩ : ∃ SN, SN = adjI less.count last.s.snap := ⟨_, rfl⟩
        rw [← hSN] at HX2
        have HMW := Lib.hid hmW
        have HOLD := Lib.hid HT.out.old
        have HCOL := Lib.hid HT.out.col
        have HSIM := Lib.hid HT.out.sim
        have HNN := Lib.hid HT.out.nn
        have hmk : (last.snapTo SN).ok W := (HLAST.out.snapTo SN).below HBW.out
        have hd := decide_any κ 10 A1 less HT.out.sim.lok (last.snapTo SN) W hlW hmk (away0 (HLAST.out.snapTo SN) HT.out.old 10 (by decide))
        have HD := Lib.hid hd
        clear hSN HG0 HC0 HXB HSN hcount hcn hCC c2 hcW hlW hmW HT hmk hd
        obtain ⟨c0, c1, c2, c3, c4, c5⟩ := six_cells HX2.out
        go_wp2_with fail
        refine HD.out.mono ?_
        rintro e w5 ⟨κ5, less', code, num, rfl, hc5, hC5, hst⟩
        have hX5 := (hc5.block LB (lt_of_block HX2.out) (by rw [HCOL.out]; omega)).trans HX2.out
        have hm5 : CertAt w5 κ5 30 A2 more := HMW.out.chg hc5 (fun i hi => by omega)
        have hb5 : Below w.heap.size w w5 := hc5.below HBW.out fun g hg => by rw [HOLD.out g hg]; omega
        have ho5 : ∀ g, g < w.heap.size → κ5 g = 0 := fun g hg => (hc5.paint g (Nat.lt_of_lt_of_le hg HBW.out.size)).trans (HOLD.out g hg)
        have hl5 : κ5 LB = 0 := (hc5.paint LB (lt_of_block HX2.out)).trans HCOL.out
        obtain ⟨VB, hVB⟩ : ∃ VB, VB = w5.heap.size := ⟨_, rfl⟩
        obtain ⟨V, hV⟩ : ∃ V, V = w5.alloc (.cells #[.int .i64 code, .int .i64 num] 35) := ⟨_, rfl⟩
        have hbV : Below w5.heap.size w5 V := hV ▸ below_alloc (Below.refl _ _) _
        have HVB : Hid (V.heap[VB]? = some (.cells #[.int .i64 code, .int .i64 num] 35 (0, 0))) := hVB ▸ hV ▸ heap_alloc_new w5 _
        have HXV : Hid (V.heap[LB]? = some (.cells #[.int .i64 last.s.session, .int .i64 last.s.seq, .int .i64 SN, .slice last.ra last.s.reads.length last.rc, .slice last.sa last.s.spans.length last.sc, .slice last.wa last.s.writes.length last.wc] 26 (0, 0))) := (hbV.block LB (lt_of_block hX5)).trans hX5
        have hcT := chg_tint (κ := κ5) (i := 0) hbV
        have HMV := Lib.hid (hm5.chg hcT (fun _ h => h.elim))
        have HBV := Lib.hid (below_then hb5 hbV)
        have HOV : Hid (∀ g, g < w.heap.size → tint w5 κ5 0 g = 0) := fun g hg => (tint_old (Nat.lt_of_lt_of_le hg hb5.size)).trans (ho5 g hg)
        have HCX : Hid (tint w5 κ5 0 LB = 0) := (tint_old (lt_of_block hX5)).trans hl5
        have HCV : Hid (tint w5 κ5 0 VB = 0) := tint_new (by omega)
        obtain ⟨κ6, hκ6⟩ : ∃ κ6, κ6 = tint w5 κ5 0 := ⟨_, rfl⟩
        rw [← hκ6] at HMV HOV HCX HCV
        have HV := Lib.hid hV
        have HVE := Lib.hid hVB
        have HST := Lib.hid hst
        clear hκ6 hbV hX5 hm5 hb5 ho5 hl5 hc5 hC5 hst hV hVB hcT HX2 HMW HOLD HCOL HBW c0 c1 c2 c3 c4 c5 HD
        go_upto_region 22 with fail
        rw [← HV.out, ← HVE.out]
        clear HV HVE
        obtain ⟨v0, v1⟩ := two_cells HVB.out
        obtain ⟨x0, x1, x2, x3, x4, x5⟩ := six_cells HXV.out
        by_cases hcode : code = 0
        · subst hcode
          have hmk : (last.snapTo SN).ok V := (HLAST.out.snapTo SN).below HBV.out
          have hrf := HSIM.out.refuse hmk.words HST.out.1.symm
          have hd := decide_any κ6 30 A2 more HSIM.out.mok (last.snapTo SN) V.drew (HMV.out.chg (Chg.refl (fun _ => False) _ _).drew (fun _ h => h.elim)) (hmk.below (Below.refl _ _).drew) (away0 (HLAST.out.snapTo SN) HOV.out 30 (by decide))
          have HD := Lib.hid hd
          have HRF := Lib.hid hrf
          clear hd hrf hmk
          refine wp_region_noPanic ?_
          refine wp_region_held_drew (S := (fun _ => True)) (by kernel_rfl) ?_ (fun hHeld0 => ?_)
          · trivial
          refine wpAnyH_take (i := 0) (oi := _) (v := ?_) rfl (by kernel_rfl) (by kernel_rfl) (by kernel_rfl) (fun _ _ _ h => h) (Or.inl ⟨by kernel_rfl, ?_⟩) (by assumption) ?_
          rotate_left
          · intro wH hSw; (try dsimp only at hSw); go_simp <;> with_reducible rfl
          (try simp only [Act.put]); (try simp only [List.setIfInBounds_toArray]); (try simp only [List.set])
          refine wpAnyH_ready (rs := [1]) (by kernel_rfl) (by simp) ?_
          refine AllReadyH.cons (o := _) rfl (fun K hK => ?_) AllReadyH.nil
          go_simp
          refine hK.out _ _ ?_ (fun hHeld1 => ?_)
          · trivial
          clear hK K hHeld0
          (try simp only [Act.put]); (try simp only [List.setIfInBounds_toArray]); (try simp only [List.set])
          refine wpAnyH_take (i := 2) (oi := _) (v := ?_) rfl (by kernel_rfl) (by kernel_rfl) (by kernel_rfl) (fun _ _ _ h => h) (Or.inl ⟨by kernel_rfl, ?_⟩) (by assumption) ?_
          rotate_left
          · intro wH hSw; (try dsimp only at hSw); go_simp <;> with_reducible rfl
          (try simp only [List.getElem_toArray]); (try simp only [List.getElem_cons_succ]); (try simp only [List.getElem_cons_zero]); (try simp only [Act.put]); (try simp only [List.setIfInBounds_toArray]); (try simp only [List.set])
          refine wpAnyH_take (i := 3) (oi := _) (v := ?_) rfl (by kernel_rfl) (by kernel_rfl) (by kernel_rfl) (fun _ _ _ h => h) (Or.inl ⟨by kernel_rfl, ?_⟩) (by assumption) ?_
          rotate_left
          · intro wH hSw; (try dsimp only at hSw); go_simp <;> with_reducible rfl
          (try simp only [Act.put]); (try simp only [List.setIfInBounds_toArray]); (try simp only [List.set])
          refine wpAnyH_take (i := 4) (oi := _) (v := ?_) rfl (by kernel_rfl) (by kernel_rfl) (by kernel_rfl) (fun _ _ _ h => h) (Or.inl ⟨by kernel_rfl, ?_⟩) (by assumption) ?_
          rotate_left
          · intro wH hSw; (try dsimp only at hSw); go_simp <;> with_reducible rfl
          (try simp only [Act.put]); (try simp only [List.setIfInBounds_toArray]); (try simp only [List.set])
          refine wpAnyH_ready (rs := [5, 7]) (by kernel_rfl) (by simp) ?_
          refine AllReadyH.cons (o := _) rfl (fun K hK => ?_) (AllReadyH.cons (o := _) rfl (fun K hK => ?_) AllReadyH.nil)
          · skip
            go_simp
            refine hK.out _ _ ?_ (fun hHeld2 => ?_)
            · trivial
            clear hK K hHeld1
            (try simp only [Act.put]); (try simp only [List.setIfInBounds_toArray]); (try simp only [List.set])
            refine wpAnyH_ready (rs := [6, 7]) (by kernel_rfl) (by simp) ?_
            refine AllReadyH.cons (o := _) rfl (fun K hK => ?_) (AllReadyH.cons (o := _) rfl (fun K hK => ?_) AllReadyH.nil)
            · skip
              go_simp
              refine HD.out.mono ?_
              rintro e w6 ⟨κ7, more', code2, num2, rfl, hc6, hC6, hst6⟩
              have hx6 : w6.heap[LB]? = some (.cells #[.int .i64 last.s.session, .int .i64 last.s.seq, .int .i64 SN, .slice last.ra last.s.reads.length last.rc, .slice last.sa last.s.spans.length last.sc, .slice last.wa last.s.writes.length last.wc] 26 (0, 0)) := (hc6.block LB (lt_of_block HXV.out) (by rw [HCX.out]; omega)).trans HXV.out
              have hv6 : w6.heap[VB]? = _ := (hc6.block VB (lt_of_block HVB.out) (by rw [HCV.out]; omega)).trans HVB.out
              have HB6 := Lib.hid (hc6.below (below_then HBV.out (Below.refl _ _).drew) fun g hg => by rw [HOV.out g hg]; omega)
              have hcode2 : code2 = 0 := hst6.1.trans HRF.out
              subst hcode2
              obtain ⟨hnum, _, _⟩ := HSIM.out.commit (HLAST.out.snapTo SN).words HST.out hst6 (by rw [HNN.out]; omega)
              subst hnum
              obtain ⟨y0, y1⟩ := two_cells hv6
              clear hc6 hC6 hst6 HD HMV HSIM HXV HVB HST HNN hx6 hv6
              go_wp2_with fail
              refine hK.out _ _ ?_ (fun hHeld3 => ?_)
              · trivial
              clear hK K hHeld2
              (try simp only [Act.put]); (try simp only [List.setIfInBounds_toArray]); (try simp only [List.set])
              refine wpAnyH_ready (rs := [7]) (by kernel_rfl) (by simp) ?_
              refine AllReadyH.cons (o := _) rfl (fun K hK => ?_) AllReadyH.nil
              go_simp
              refine hK.out _ _ ?_ (fun hHeld4 => ?_)
              · trivial
              clear hK K hHeld3
              (try simp only [Act.put]); (try simp only [List.setIfInBounds_toArray]); (try simp only [List.set])
              refine wpAnyH_ready (rs := [8]) (by kernel_rfl) (by simp) ?_
              refine AllReadyH.cons (o := _) rfl (fun K hK => ?_) AllReadyH.nil
              go_simp
              refine hK.out _ _ ?_ (fun hHeld5 => ?_)
              · trivial
              clear hK K hHeld4
              (try simp only [Act.put]); (try simp only [List.setIfInBounds_toArray]); (try simp only [List.set])
              refine wpAnyH_take (i := 9) (oi := _) (v := ?_) rfl (by kernel_rfl) (by kernel_rfl) (by kernel_rfl) (fun _ _ _ h => h) (Or.inl ⟨by kernel_rfl, ?_⟩) (by assumption) ?_
              rotate_left
              · intro wH hSw; (try dsimp only at hSw); go_simp <;> with_reducible rfl
              (try simp only [Act.put]); (try simp only [List.setIfInBounds_toArray]); (try simp only [List.set])
              refine wpAnyH_take (i := 10) (oi := _) (v := ?_) rfl (by kernel_rfl) (by kernel_rfl) (by kernel_rfl) (fun _ _ _ h => h) (Or.inl ⟨by kernel_rfl, ?_⟩) (by assumption) ?_
              rotate_left
              · intro wH hSw; (try dsimp only at hSw); go_simp <;> with_reducible rfl
              (try simp only [List.getElem_toArray]); (try simp only [List.getElem_cons_succ]); (try simp only [List.getElem_cons_zero]); (try simp only [Act.put]); (try simp only [List.setIfInBounds_toArray]); (try simp only [List.set])
              refine wpAnyH_done (by kernel_rfl) ?_ _
              refine NoPanic.normal ?_
              go_wp2_with fail
              go_ret
              exact ⟨rfl, HB6.out⟩
            · skip
              go_simp
              refine hK.out _ _ ?_ (fun hHeld6 => ?_)
              · trivial
              clear hK K hHeld2
              (try simp only [Act.put]); (try simp only [List.setIfInBounds_toArray]); (try simp only [List.set])
              refine wpAnyH_ready (rs := [6]) (by kernel_rfl) (by simp) ?_
              refine AllReadyH.cons (o := _) rfl (fun K hK => ?_) AllReadyH.nil
              go_simp
              refine HD.out.mono ?_
              rintro e w6 ⟨κ7, more', code2, num2, rfl, hc6, hC6, hst6⟩
              have hx6 : w6.heap[LB]? = some (.cells #[.int .i64 last.s.session, .int .i64 last.s.seq, .int .i64 SN, .slice last.ra last.s.reads.length last.rc, .slice last.sa last.s.spans.length last.sc, .slice last.wa last.s.writes.length last.wc] 26 (0, 0)) := (hc6.block LB (lt_of_block HXV.out) (by rw [HCX.out]; omega)).trans HXV.out
              have hv6 : w6.heap[VB]? = _ := (hc6.block VB (lt_of_block HVB.out) (by rw [HCV.out]; omega)).trans HVB.out
              have HB6 := Lib.hid (hc6.below (below_then HBV.out (Below.refl _ _).drew) fun g hg => by rw [HOV.out g hg]; omega)
              have hcode2 : code2 = 0 := hst6.1.trans HRF.out
              subst hcode2
              obtain ⟨hnum, _, _⟩ := HSIM.out.commit (HLAST.out.snapTo SN).words HST.out hst6 (by rw [HNN.out]; omega)
              subst hnum
              obtain ⟨y0, y1⟩ := two_cells hv6
              clear hc6 hC6 hst6 HD HMV HSIM HXV HVB HST HNN hx6 hv6
              go_wp2_with fail
              refine hK.out _ _ ?_ (fun hHeld7 => ?_)
              · trivial
              clear hK K hHeld6
              (try simp only [Act.put]); (try simp only [List.setIfInBounds_toArray]); (try simp only [List.set])
              refine wpAnyH_ready (rs := [8]) (by kernel_rfl) (by simp) ?_
              refine AllReadyH.cons (o := _) rfl (fun K hK => ?_) AllReadyH.nil
              go_simp
              refine hK.out _ _ ?_ (fun hHeld8 => ?_)
              · trivial
              clear hK K hHeld7
              (try simp only [Act.put]); (try simp only [List.setIfInBounds_toArray]); (try simp only [List.set])
              refine wpAnyH_take (i := 9) (oi := _) (v := ?_) rfl (by kernel_rfl) (by kernel_rfl) (by kernel_rfl) (fun _ _ _ h => h) (Or.inl ⟨by kernel_rfl, ?_⟩) (by assumption) ?_
              rotate_left
              · intro wH hSw; (try dsimp only at hSw); go_simp <;> with_reducible rfl
              (try simp only [Act.put]); (try simp only [List.setIfInBounds_toArray]); (try simp only [List.set])
              refine wpAnyH_take (i := 10) (oi := _) (v := ?_) rfl (by kernel_rfl) (by kernel_rfl) (by kernel_rfl) (fun _ _ _ h => h) (Or.inl ⟨by kernel_rfl, ?_⟩) (by assumption) ?_
              rotate_left
              · intro wH hSw; (try dsimp only at hSw); go_simp <;> with_reducible rfl
              (try simp only [List.getElem_toArray]); (try simp only [List.getElem_cons_succ]); (try simp only [List.getElem_cons_zero]); (try simp only [Act.put]); (try simp only [List.setIfInBounds_toArray]); (try simp only [List.set])
              refine wpAnyH_done (by kernel_rfl) ?_ _
              refine NoPanic.normal ?_
              go_wp2_with fail
              go_ret
              exact ⟨rfl, HB6.out⟩
          · skip
            go_simp
            refine hK.out _ _ ?_ (fun hHeld9 => ?_)
            · trivial
            clear hK K hHeld1
            (try simp only [Act.put]); (try simp only [List.setIfInBounds_toArray]); (try simp only [List.set])
            refine wpAnyH_ready (rs := [5]) (by kernel_rfl) (by simp) ?_
            refine AllReadyH.cons (o := _) rfl (fun K hK => ?_) AllReadyH.nil
            go_simp
            refine hK.out _ _ ?_ (fun hHeld10 => ?_)
            · trivial
            clear hK K hHeld9
            (try simp only [Act.put]); (try simp only [List.setIfInBounds_toArray]); (try simp only [List.set])
            refine wpAnyH_ready (rs := [6]) (by kernel_rfl) (by simp) ?_
            refine AllReadyH.cons (o := _) rfl (fun K hK => ?_) AllReadyH.nil
            go_simp
            refine HD.out.mono ?_
            rintro e w6 ⟨κ7, more', code2, num2, rfl, hc6, hC6, hst6⟩
            have hx6 : w6.heap[LB]? = some (.cells #[.int .i64 last.s.session, .int .i64 last.s.seq, .int .i64 SN, .slice last.ra last.s.reads.length last.rc, .slice last.sa last.s.spans.length last.sc, .slice last.wa last.s.writes.length last.wc] 26 (0, 0)) := (hc6.block LB (lt_of_block HXV.out) (by rw [HCX.out]; omega)).trans HXV.out
            have hv6 : w6.heap[VB]? = _ := (hc6.block VB (lt_of_block HVB.out) (by rw [HCV.out]; omega)).trans HVB.out
            have HB6 := Lib.hid (hc6.below (below_then HBV.out (Below.refl _ _).drew) fun g hg => by rw [HOV.out g hg]; omega)
            have hcode2 : code2 = 0 := hst6.1.trans HRF.out
            subst hcode2
            obtain ⟨hnum, _, _⟩ := HSIM.out.commit (HLAST.out.snapTo SN).words HST.out hst6 (by rw [HNN.out]; omega)
            subst hnum
            obtain ⟨y0, y1⟩ := two_cells hv6
            clear hc6 hC6 hst6 HD HMV HSIM HXV HVB HST HNN hx6 hv6
            go_wp2_with fail
            refine hK.out _ _ ?_ (fun hHeld11 => ?_)
            · trivial
            clear hK K hHeld10
            (try simp only [Act.put]); (try simp only [List.setIfInBounds_toArray]); (try simp only [List.set])
            refine wpAnyH_ready (rs := [8]) (by kernel_rfl) (by simp) ?_
            refine AllReadyH.cons (o := _) rfl (fun K hK => ?_) AllReadyH.nil
            go_simp
            refine hK.out _ _ ?_ (fun hHeld12 => ?_)
            · trivial
            clear hK K hHeld11
            (try simp only [Act.put]); (try simp only [List.setIfInBounds_toArray]); (try simp only [List.set])
            refine wpAnyH_take (i := 9) (oi := _) (v := ?_) rfl (by kernel_rfl) (by kernel_rfl) (by kernel_rfl) (fun _ _ _ h => h) (Or.inl ⟨by kernel_rfl, ?_⟩) (by assumption) ?_
            rotate_left
            · intro wH hSw; (try dsimp only at hSw); go_simp <;> with_reducible rfl
            (try simp only [Act.put]); (try simp only [List.setIfInBounds_toArray]); (try simp only [List.set])
            refine wpAnyH_take (i := 10) (oi := _) (v := ?_) rfl (by kernel_rfl) (by kernel_rfl) (by kernel_rfl) (fun _ _ _ h => h) (Or.inl ⟨by kernel_rfl, ?_⟩) (by assumption) ?_
            rotate_left
            · intro wH hSw; (try dsimp only at hSw); go_simp <;> with_reducible rfl
            (try simp only [List.getElem_toArray]); (try simp only [List.getElem_cons_succ]); (try simp only [List.getElem_cons_zero]); (try simp only [Act.put]); (try simp only [List.setIfInBounds_toArray]); (try simp only [List.set])
            refine wpAnyH_done (by kernel_rfl) ?_ _
            refine NoPanic.normal ?_
            go_wp2_with fail
            go_ret
            exact ⟨rfl, HB6.out⟩
        · skip
          refine wp_region_noPanic ?_
          refine wp_region_held_drew (S := (fun _ => True)) (by kernel_rfl) ?_ (fun hHeld0 => ?_)
          · trivial
          refine wpAnyH_take (i := 0) (oi := _) (v := ?_) rfl (by kernel_rfl) (by kernel_rfl) (by kernel_rfl) (fun _ _ _ h => h) (Or.inl ⟨by kernel_rfl, ?_⟩) (by assumption) ?_
          rotate_left
          · intro wH hSw; (try dsimp only at hSw); go_simp <;> with_reducible rfl
          (try simp only [Act.put]); (try simp only [List.setIfInBounds_toArray]); (try simp only [List.set])
          refine wpAnyH_ready (rs := [1]) (by kernel_rfl) (by simp) ?_
          refine AllReadyH.cons (o := _) rfl (fun K hK => ?_) AllReadyH.nil
          go_simp
          refine hK.out _ _ ?_ (fun hHeld1 => ?_)
          · trivial
          clear hK K hHeld0
          (try simp only [Act.put]); (try simp only [List.setIfInBounds_toArray]); (try simp only [List.set])
          refine wpAnyH_ready (rs := [2]) (by kernel_rfl) (by simp) ?_
          refine AllReadyH.cons (o := _) rfl (fun K hK => ?_) AllReadyH.nil
          go_simp
          refine hK.out _ _ ?_ (fun hHeld2 => ?_)
          · trivial
          clear hK K hHeld1
          (try simp only [Act.put]); (try simp only [List.setIfInBounds_toArray]); (try simp only [List.set])
          rw [show (code != 0) = true by simpa using hcode]
          refine wpAnyH_take (i := 3) (oi := _) (v := ?_) rfl (by kernel_rfl) (by kernel_rfl) (by kernel_rfl) (fun _ _ _ h => h) (Or.inl ⟨by kernel_rfl, ?_⟩) (by assumption) ?_
          rotate_left
          · intro wH hSw; (try dsimp only at hSw); go_simp <;> with_reducible rfl
          (try simp only [Act.put]); (try simp only [List.setIfInBounds_toArray]); (try simp only [List.set])
          refine wpAnyH_take (i := 4) (oi := _) (v := undef) rfl (by kernel_rfl) (by kernel_rfl) (by kernel_rfl) (fun _ _ _ h => h) (Or.inr ⟨by kernel_rfl, rfl⟩) (by assumption) ?_
          (try simp only [Act.put]); (try simp only [List.setIfInBounds_toArray]); (try simp only [List.set])
          refine wpAnyH_take (i := 5) (oi := _) (v := undef) rfl (by kernel_rfl) (by kernel_rfl) (by kernel_rfl) (fun _ _ _ h => h) (Or.inr ⟨by kernel_rfl, rfl⟩) (by assumption) ?_
          (try simp only [Act.put]); (try simp only [List.setIfInBounds_toArray]); (try simp only [List.set])
          refine wpAnyH_take (i := 6) (oi := _) (v := undef) rfl (by kernel_rfl) (by kernel_rfl) (by kernel_rfl) (fun _ _ _ h => h) (Or.inr ⟨by kernel_rfl, rfl⟩) (by assumption) ?_
          (try simp only [Act.put]); (try simp only [List.setIfInBounds_toArray]); (try simp only [List.set])
          refine wpAnyH_take (i := 7) (oi := _) (v := undef) rfl (by kernel_rfl) (by kernel_rfl) (by kernel_rfl) (fun _ _ _ h => h) (Or.inr ⟨by kernel_rfl, rfl⟩) (by assumption) ?_
          (try simp only [Act.put]); (try simp only [List.setIfInBounds_toArray]); (try simp only [List.set])
          refine wpAnyH_take (i := 8) (oi := _) (v := undef) rfl (by kernel_rfl) (by kernel_rfl) (by kernel_rfl) (fun _ _ _ h => h) (Or.inr ⟨by kernel_rfl, rfl⟩) (by assumption) ?_
          (try simp only [List.getElem_toArray]); (try simp only [List.getElem_cons_succ]); (try simp only [List.getElem_cons_zero]); (try simp only [Act.put]); (try simp only [List.setIfInBounds_toArray]); (try simp only [List.set])
          refine wpAnyH_take (i := 9) (oi := _) (v := ?_) rfl (by kernel_rfl) (by kernel_rfl) (by kernel_rfl) (fun _ _ _ h => h) (Or.inl ⟨by kernel_rfl, ?_⟩) (by assumption) ?_
          rotate_left
          · intro wH hSw; (try dsimp only at hSw); go_simp <;> with_reducible rfl
          (try simp only [Act.put]); (try simp only [List.setIfInBounds_toArray]); (try simp only [List.set])
          refine wpAnyH_take (i := 10) (oi := _) (v := ?_) rfl (by kernel_rfl) (by kernel_rfl) (by kernel_rfl) (fun _ _ _ h => h) (Or.inl ⟨by kernel_rfl, ?_⟩) (by assumption) ?_
          rotate_left
          · intro wH hSw; (try dsimp only at hSw); go_simp <;> with_reducible rfl
          (try simp only [List.getElem_toArray]); (try simp only [List.getElem_cons_succ]); (try simp only [List.getElem_cons_zero]); (try simp only [Act.put]); (try simp only [List.setIfInBounds_toArray]); (try simp only [List.set])
          refine wpAnyH_done (by kernel_rfl) ?_ _
          refine NoPanic.normal ?_
          go_wp2_with fail
          go_ret
          exact ⟨rfl, below_then HBV.out (Below.refl _ _).drew⟩
end Go.Proofs.YtpknmfmpiachkaaGreat
