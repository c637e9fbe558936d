/- WholeMachine: what stands in memory; the plain laws. -/
import Derived.Test.YtpknmfmpiachkaaGreatSess7
import Derived.Test.YtpknmfmpiachkaaGreatCert9
import Derived.Test.YtpknmfmpiachkaaGreatMdec2
import Derived.Test.YtpknmfmpiachkaaGreatTops
import Derived.Test.YtpknmfmpiachkaaGreatMenc
import Derived.Test.YtpknmfmpiachkaaGreatSnd2
import Derived.Test.YtpknmfmpiachkaaGreatHist2
import Derived.Test.YtpknmfmpiachkaaGreatOpen
import Derived.Test.YtpknmfmpiachkaaGreatSer3
namespace Go.Proofs.YtpknmfmpiachkaaGreat
open Go.RowKit Go.Maps
def JM (i : Nat) : Prop := (10 ≤ i ∧ i ≤ 19) ∨ (40 ≤ i ∧ i ≤ 49) ∨ i = 60
structure MachAt (w : World) (κ : Nat → Nat) (A C T : Nat) (idx : Int) (c : CertV) (cnt M : Nat) (D : DataW Unit) (f : Int → Option (Nat × SV)) : Prop where
 var : w.heap[A]? = some (.cells #[.pointer (some ⟨C, 0, none⟩), .pointer (some ⟨T, 0, none⟩), .int .i64 idx] 94 (0, 0))
 colA : κ A = 60
 cert : CertAt w κ 10 C c
 tab : TableAt w κ T cnt M D f
theorem MachAt.chg {w w' : World} {κ κ' : Nat → Nat} {A C T : Nat} {idx : Int} {c : CertV} {cnt M : Nat} {D : DataW Unit} {f : Int → Option (Nat × SV)} (h : MachAt w κ A C T idx c cnt M D f) {J : Nat → Prop} (hc : Chg J κ κ' w w') (hj : ∀ i, J i → ¬ JM i) : MachAt w' κ' A C T idx c cnt M D f :=
 ⟨(hc.block A (lt_of_block h.var) (by rw [h.colA]; exact fun hJ => hj _ hJ (.inr (.inr rfl)))).trans h.var, (hc.paint A (lt_of_block h.var)).trans h.colA, h.cert.chg hc (fun i hi => by have h1 := hj i hi; unfold JM at h1; omega), h.tab.chg hc (fun i hi => by have h1 := hj i hi; unfold JM at h1; omega)⟩
theorem Chg.loc {J : Nat → Prop} {κ κ' : Nat → Nat} {w wx w' : World} {B : Nat} (h : Chg J κ κ' w wx) (hg : wx.grownBy w' (some B)) (hB : w.heap.size ≤ B) : Chg J κ κ' w w' :=
 ⟨hg.os.trans h.os, hg.tape.trans h.tape, hg.output.trans h.output, Nat.le_trans h.size hg.size, h.paint, fun g hgl hn => (hg.block g (Nat.lt_of_lt_of_le hgl h.size) (by simp; omega)).trans (h.block g hgl hn)⟩
theorem machCells {w : World} {κ : Nat → Nat} {A C T : Nat} {idx : Int} {c : CertV} {cnt M : Nat} {D : DataW Unit} {f : Int → Option (Nat × SV)} (h : MachAt w κ A C T idx c cnt M D f) : w.cell? ⟨A, 0, none⟩ = some (.pointer (some ⟨C, 0, none⟩)) ∧ w.cell? ⟨A, 1, none⟩ = some (.pointer (some ⟨T, 0, none⟩)) ∧ w.cell? ⟨A, 2, none⟩ = some (.int .i64 idx) ∧ w.frozen? ⟨A, 2, none⟩ = false := by
 have hv := h.var
 refine ⟨?_, ?_, ?_, ?_⟩ <;> simp [World.cell?, World.frozen?, hv]
set_option maxRecDepth 100000 in
set_option maxHeartbeats 1600000 in
theorem machCount_any (κ : Nat → Nat) (A C T : Nat) (idx : Int) (c : CertV) (cnt M : Nat) (D : DataW Unit) (f : Int → Option (Nat × SV)) (w : World) (h : MachAt w κ A C T idx c cnt M D f) : Calls Tryz.prog 17 #[.pointer (some ⟨A, 0, none⟩)] w (RetEq w (.int .i64 c.count)) := by
 obtain ⟨m0, m1, m2, _⟩ := machCells h
 have HC := Lib.hid (count_any κ 10 C c w h.cert)
 clear h
 go_enter Tryz.func17, Tryz.ntmps17
 go_wp2_with fail
 refine HC.out.mono ?_
 rintro e w1 ⟨rfl, rfl⟩
 go_wp2_with fail
 go_ret
 exact ⟨rfl, rfl⟩
set_option maxRecDepth 100000 in
set_option maxHeartbeats 1600000 in
theorem machIndex_any (κ : Nat → Nat) (A C T : Nat) (idx : Int) (c : CertV) (cnt M : Nat) (D : DataW Unit) (f : Int → Option (Nat × SV)) (w : World) (h : MachAt w κ A C T idx c cnt M D f) : Calls Tryz.prog 20 #[.pointer (some ⟨A, 0, none⟩)] w (RetEq w (.int .i64 idx)) := by
 obtain ⟨m0, m1, m2, _⟩ := machCells h
 clear h
 go_enter Tryz.func20, Tryz.ntmps20
 go_wp2_with fail
 go_ret
 exact ⟨rfl, rfl⟩
def MNewPost (κ : Nat → Nat) (w : World) (c : CertV) (e : Ending) (w' : World) : Prop :=
 ∃ A C T M κ', e = .returned (.pointer (some ⟨A, 0, none⟩)) ∧ w.heap.size ≤ A ∧ Below w.heap.size w w' ∧ (∀ g, g < w.heap.size → κ' g = κ g) ∧ MachAt w' κ' A C T 0 c 0 M (.map []) (fun _ => none)
set_option maxRecDepth 100000 in
set_option maxHeartbeats 1600000 in
theorem machNew_any (κ : Nat → Nat) (keep old : Int) (w : World) : Calls Tryz.prog 15 #[.agg #[.int .i64 keep, .int .i64 old]] w (MNewPost κ w (newP keep old)) := by
 obtain ⟨X, hX⟩ : ∃ X, X = w.alloc (.cells #[.int .i64 keep, .int .i64 old] 31) := ⟨_, rfl⟩
 have hbX : Below w.heap.size w X := hX ▸ below_alloc (Below.refl _ _) _
 obtain ⟨c0, c1, _⟩ := two_cells (show X.heap[w.heap.size]? = some (.cells #[.int .i64 keep, .int .i64 old] 31 (0, 0)) from hX ▸ heap_alloc_new w _)
 have HN := Lib.hid (new_any κ 10 keep old X)
 have HS := Lib.hid (fun κ W => sessNew_any κ W)
 have HX := Lib.hid hX
 have HBX := Lib.hid hbX
 clear hX hbX
 go_enter Tryz.func15, Tryz.ntmps15
 go_upto_region 1 with fail
 rw [← HX.out]
 clear HX
 go_wp2_with fail
 refine HN.out.mono ?_
 rintro e w1 ⟨C, κ1, rfl, _, hb1, hk1, hC1⟩
 have HB1 := Lib.hid hb1
 have HK1 := Lib.hid hk1
 have HC1 := Lib.hid hC1
 clear hb1 hk1 hC1 c0 c1
 go_wp2_with fail
 refine (HS.out κ1 w1).mono ?_
 rintro e w2 ⟨T, M, κ2, rfl, hb2, hk2, hT2⟩
 obtain ⟨W, hW⟩ : ∃ W, W = w2.alloc (.cells #[.pointer (some ⟨C, 0, none⟩), .pointer (some ⟨T, 0, none⟩), .int .i64 0] 94) := ⟨_, rfl⟩
 have hbW : Below w2.heap.size w2 W := hW ▸ below_alloc (Below.refl _ _) _
 have hc2 : Chg (fun _ => False) κ1 κ2 w1 w2 := ⟨hb2.os, hb2.tape, hb2.output, hb2.size, hk2, fun g hg _ => hb2.block g hg⟩
 have hcW := chg_tint (κ := κ2) (i := 60) hbW
 have HFIN : Hid (MNewPost κ w (newP keep old) (.returned (.pointer (some ⟨w2.heap.size, 0, none⟩))) W) :=
  ⟨w2.heap.size, C, T, M, tint w2 κ2 60, rfl, Nat.le_trans (Nat.le_trans HBX.out.size HB1.out.size) hb2.size, below_then (below_then (below_then HBX.out HB1.out) hb2) hbW,
   fun g hg => (tint_old (Nat.lt_of_lt_of_le hg (Nat.le_trans (Nat.le_trans HBX.out.size HB1.out.size) hb2.size))).trans ((hk2 g (Nat.lt_of_lt_of_le hg (Nat.le_trans HBX.out.size HB1.out.size))).trans (HK1.out g (Nat.lt_of_lt_of_le hg HBX.out.size))),
   hW ▸ heap_alloc_new w2 _, tint_new (Nat.le_refl _), (HC1.out.chg hc2 (fun _ h => h.elim)).chg hcW (fun _ h => h.elim), hT2.chg hcW (fun _ h => h.elim)⟩
 have HW := Lib.hid hW
 clear hW hbW hc2 hcW hb2 hk2 hT2 HB1 HK1 HC1 HBX
 go_wp2_with fail
 rw [← HW.out]
 go_ret
 exact HFIN.out
end Go.Proofs.YtpknmfmpiachkaaGreat
namespace Go.Proofs.YtpknmfmpiachkaaGreat
open Go.RowKit Go.Maps
structure Loc (w0 wx : World) (κ : Nat → Nat) (B : Nat) (cs : Array Value) (T : TypeId) : Prop where
 cell : wx.heap[B]? = some (.cells cs T (0, 0))
 col : κ B = 0
 new : w0.heap.size ≤ B
theorem Loc.chg {w0 wx w' : World} {κ κ' : Nat → Nat} {B : Nat} {cs : Array Value} {T : TypeId} (h : Loc w0 wx κ B cs T) {J : Nat → Prop} (hc : Chg J κ κ' wx w') (hj : ¬ J 0) : Loc w0 w' κ' B cs T :=
 ⟨(hc.block B (lt_of_block h.cell) (by rw [h.col]; exact hj)).trans h.cell, (hc.paint B (lt_of_block h.cell)).trans h.col, h.new⟩
theorem Loc.below {w0 wx w' : World} {κ : Nat → Nat} {B : Nat} {cs : Array Value} {T : TypeId} (h : Loc w0 wx κ B cs T) (hb : Below wx.heap.size wx w') : Loc w0 w' κ B cs T := h.chg (Chg.of_below (J := fun _ => False) hb) id
theorem Loc.set {w0 wx : World} {κ : Nat → Nat} {B : Nat} {cs : Array Value} {T : TypeId} (h : Loc w0 wx κ B cs T) (i : Nat) (v : Value) : Loc w0 (wx.setCell ⟨B, i, none⟩ v) κ B (cs.setIfInBounds i v) T := ⟨set_block h.cell v, h.col, h.new⟩
theorem Loc.far {w0 wx : World} {κ : Nat → Nat} {B B' : Nat} {cs : Array Value} {T : TypeId} (h : Loc w0 wx κ B cs T) (i : Nat) (v : Value) (hn : B ≠ B') : Loc w0 (wx.setCell ⟨B', i, none⟩ v) κ B cs T := ⟨set_far h.cell hn, h.col, h.new⟩
structure ApS (κ0 : Nat → Nat) (w0 wx : World) (κ : Nat → Nat) (A C T : Nat) (idx : Int) (c : CertV) (cnt M : Nat) (D : DataW Unit) (f : Int → Option (Nat × SV)) : Prop where
 mach : MachAt wx κ A C T idx c cnt M D f
 chg : Chg JM κ0 κ w0 wx
section
variable {κ0 : Nat → Nat} {w0 wx w' : World} {κ κ' : Nat → Nat} {A C T : Nat} {idx : Int} {c c' : CertV} {cnt M : Nat} {D : DataW Unit} {f : Int → Option (Nat × SV)}
theorem ApS.below (h : ApS κ0 w0 wx κ A C T idx c cnt M D f) (hb : Below wx.heap.size wx w') : ApS κ0 w0 w' κ A C T idx c cnt M D f :=
 ⟨h.mach.chg (Chg.of_below (J := fun _ => False) hb) (fun _ h => h.elim), h.chg.trans (Chg.of_below hb)⟩
theorem ApS.loc {B : Nat} {cs : Array Value} {T' : TypeId} (h : ApS κ0 w0 wx κ A C T idx c cnt M D f) (hl : Loc w0 wx κ B cs T') (i : Nat) (v : Value) : ApS κ0 w0 (wx.setCell ⟨B, i, none⟩ v) κ A C T idx c cnt M D f :=
 ⟨h.mach.chg (Chg.of_grown (J := (· = 0)) (grown_set wx B i v) hl.col) (fun i hi => by unfold JM; omega), h.chg.loc (grown_set wx B i v) hl.new⟩
theorem ApS.index (h : ApS κ0 w0 wx κ A C T idx c cnt M D f) (x : Int) : ApS κ0 w0 (wx.setCell ⟨A, 2, none⟩ (.int .i64 x)) κ A C T x c cnt M D f := by
 have hc : Chg (· = 60) κ κ wx (wx.setCell ⟨A, 2, none⟩ (.int .i64 x)) := Chg.of_grown (grown_set wx A 2 _) h.mach.colA
 exact ⟨⟨set_block (i := 2) h.mach.var _, h.mach.colA, h.mach.cert.chg hc (fun i hi => by omega), h.mach.tab.chg hc (fun i hi => by omega)⟩, h.chg.trans (hc.mono fun i hi => by unfold JM; omega)⟩
theorem ApS.decide (h : ApS κ0 w0 wx κ A C T idx c cnt M D f) (hc : Chg (fun i => 10 ≤ i ∧ i ≤ 10 + 9) κ κ' wx w') (hC : CertAt w' κ' 10 C c') : ApS κ0 w0 w' κ' A C T idx c' cnt M D f :=
 ⟨⟨(hc.block A (lt_of_block h.mach.var) (by rw [h.mach.colA]; omega)).trans h.mach.var, (hc.paint A (lt_of_block h.mach.var)).trans h.mach.colA, hC, h.mach.tab.chg hc (fun i hi => by omega)⟩, h.chg.trans (hc.mono fun i hi => by unfold JM; omega)⟩
theorem ApS.put {cnt' M' : Nat} {D' : DataW Unit} {f' : Int → Option (Nat × SV)} (h : ApS κ0 w0 wx κ A C T idx c cnt M D f) (hc : Chg J40 κ κ' wx w') (hT : TableAt w' κ' T cnt' M' D' f') : ApS κ0 w0 w' κ' A C T idx c cnt' M' D' f' := by
 have hj : ∀ i, J40 i → 40 ≤ i ∧ i ≤ 49 := fun i hi => hi
 exact ⟨⟨(hc.block A (lt_of_block h.mach.var) (by rw [h.mach.colA]; intro hJ; have := hj _ hJ; omega)).trans h.mach.var, (hc.paint A (lt_of_block h.mach.var)).trans h.mach.colA, h.mach.cert.chg hc (fun i hi => by have := hj _ hi; omega), hT⟩, h.chg.trans (hc.mono fun i hi => by have := hj _ hi; unfold JM; omega)⟩
end
structure ApB (κ0 : Nat → Nat) (w0 wx : World) (κ : Nat → Nat) (A C T : Nat) (idx : Int) (c : CertV) (cnt M : Nat) (D : DataW Unit) (f : Int → Option (Nat × SV)) (m : SubM) (SB AB RB : Nat) (a2 a3 : Int) (a4 : Bool) : Prop where
 s : ApS κ0 w0 wx κ A C T idx c cnt M D f
 sb : Loc w0 wx κ SB #[.int .i64 m.s.session, .int .i64 m.s.seq, .int .i64 m.s.snap, .slice m.ra m.s.reads.length m.rc, .slice m.sa m.s.spans.length m.sc, .slice m.wa m.s.writes.length m.wc] 26
 ab : Loc w0 wx κ AB #[.int .i64 m.s.session, .int .i64 m.s.seq, .int .i64 a2, .int .i64 a3, .bool a4] 57
 rb : Loc w0 wx κ RB #[.int .i64 0, .int .i64 0, .int .i64 0, .int .i64 0, .bool false] 57
 ne1 : SB ≠ AB
 ne2 : RB ≠ AB
section
variable {κ0 : Nat → Nat} {w0 wx w' : World} {κ κ' : Nat → Nat} {A C T : Nat} {idx : Int} {c c' : CertV} {cnt M : Nat} {D : DataW Unit} {f : Int → Option (Nat × SV)} {m : SubM} {SB AB RB : Nat} {a2 a3 : Int} {a4 : Bool}
theorem ApB.below (h : ApB κ0 w0 wx κ A C T idx c cnt M D f m SB AB RB a2 a3 a4) (hb : Below wx.heap.size wx w') : ApB κ0 w0 w' κ A C T idx c cnt M D f m SB AB RB a2 a3 a4 :=
 ⟨h.s.below hb, h.sb.below hb, h.ab.below hb, h.rb.below hb, h.ne1, h.ne2⟩
theorem ApB.chg {cnt' M' : Nat} {D' : DataW Unit} {f' : Int → Option (Nat × SV)} (h : ApB κ0 w0 wx κ A C T idx c cnt M D f m SB AB RB a2 a3 a4) {J : Nat → Prop} (hc : Chg J κ κ' wx w') (hj : ¬ J 0) (hs : ApS κ0 w0 w' κ' A C T idx c' cnt' M' D' f') : ApB κ0 w0 w' κ' A C T idx c' cnt' M' D' f' m SB AB RB a2 a3 a4 :=
 ⟨hs, h.sb.chg hc hj, h.ab.chg hc hj, h.rb.chg hc hj, h.ne1, h.ne2⟩
theorem ApB.set2 (h : ApB κ0 w0 wx κ A C T idx c cnt M D f m SB AB RB a2 a3 a4) (x : Int) : ApB κ0 w0 (wx.setCell ⟨AB, 2, none⟩ (.int .i64 x)) κ A C T idx c cnt M D f m SB AB RB x a3 a4 :=
 ⟨h.s.loc h.ab 2 _, h.sb.far 2 _ h.ne1, h.ab.set 2 _, h.rb.far 2 _ h.ne2, h.ne1, h.ne2⟩
theorem ApB.set3 (h : ApB κ0 w0 wx κ A C T idx c cnt M D f m SB AB RB a2 a3 a4) (x : Int) : ApB κ0 w0 (wx.setCell ⟨AB, 3, none⟩ (.int .i64 x)) κ A C T idx c cnt M D f m SB AB RB a2 x a4 :=
 ⟨h.s.loc h.ab 3 _, h.sb.far 3 _ h.ne1, h.ab.set 3 _, h.rb.far 3 _ h.ne2, h.ne1, h.ne2⟩
theorem ApB.set4 (h : ApB κ0 w0 wx κ A C T idx c cnt M D f m SB AB RB a2 a3 a4) (x : Bool) : ApB κ0 w0 (wx.setCell ⟨AB, 4, none⟩ (.bool x)) κ A C T idx c cnt M D f m SB AB RB a2 a3 x :=
 ⟨h.s.loc h.ab 4 _, h.sb.far 4 _ h.ne1, h.ab.set 4 _, h.rb.far 4 _ h.ne2, h.ne1, h.ne2⟩
end
theorem ApB.cells {κ0 : Nat → Nat} {w0 wx : World} {κ : Nat → Nat} {A C T : Nat} {idx : Int} {c : CertV} {cnt M : Nat} {D : DataW Unit} {f : Int → Option (Nat × SV)} {m : SubM} {SB AB RB : Nat} {a2 a3 : Int} {a4 : Bool} (h : ApB κ0 w0 wx κ A C T idx c cnt M D f m SB AB RB a2 a3 a4) :
 wx.cell? ⟨A, 0, none⟩ = some (.pointer (some ⟨C, 0, none⟩)) ∧ wx.cell? ⟨SB, 0, none⟩ = some (.int .i64 m.s.session) ∧ wx.cell? ⟨SB, 1, none⟩ = some (.int .i64 m.s.seq) ∧ wx.cell? ⟨SB, 2, none⟩ = some (.int .i64 m.s.snap) ∧ wx.cell? ⟨SB, 3, none⟩ = some (.slice m.ra m.s.reads.length m.rc) ∧ wx.cell? ⟨SB, 4, none⟩ = some (.slice m.sa m.s.spans.length m.sc) ∧ wx.cell? ⟨SB, 5, none⟩ = some (.slice m.wa m.s.writes.length m.wc) := by
 obtain ⟨q0, _, _, _⟩ := machCells h.s.mach
 exact ⟨q0, six_cells h.sb.cell⟩
theorem five_facts {w : World} {B : Nat} {T : TypeId} {c0 c1 c2 c3 c4 : Value} (h : w.heap[B]? = some (.cells #[c0, c1, c2, c3, c4] T (0, 0))) : (w.cell? ⟨B, 0, none⟩ = some c0 ∧ w.cell? ⟨B, 1, none⟩ = some c1 ∧ w.cell? ⟨B, 2, none⟩ = some c2 ∧ w.cell? ⟨B, 3, none⟩ = some c3 ∧ w.cell? ⟨B, 4, none⟩ = some c4) ∧ (w.frozen? ⟨B, 0, none⟩ = false ∧ w.frozen? ⟨B, 1, none⟩ = false ∧ w.frozen? ⟨B, 2, none⟩ = false ∧ w.frozen? ⟨B, 3, none⟩ = false ∧ w.frozen? ⟨B, 4, none⟩ = false) := by
 refine ⟨⟨?_, ?_, ?_, ?_, ?_⟩, ?_, ?_, ?_, ?_, ?_⟩ <;> simp [World.cell?, World.frozen?, h]
theorem load_answer {w : World} {B : Nat} {c0 c1 c2 c3 c4 : Value} (h : w.heap[B]? = some (.cells #[c0, c1, c2, c3, c4] 57 (0, 0))) : (loadVar 57 ⟨B, 0, none⟩).run Tryz.prog w = .ok (.agg #[c0, c1, c2, c3, c4]) w := by
 refine run_loadVar_mid w B 0 _ [c0, c1, c2, c3, c4] _ (fun j v hv => ?_) Tryz.underlying57 rfl (by kernel_rfl)
 simp only [World.cell?, h, Nat.zero_add]
 rw [← hv]
 simp
theorem five_set {w : World} {B : Nat} {T : TypeId} {fr : Nat × Nat} {a0 a1 a2 a3 a4 : Value} (h : w.heap[B]? = some (.cells #[a0, a1, a2, a3, a4] T fr)) (v0 v1 v2 v3 v4 : Value) :
 (((((w.setCell ⟨B, 0, none⟩ v0).setCell ⟨B, 1, none⟩ v1).setCell ⟨B, 2, none⟩ v2).setCell ⟨B, 3, none⟩ v3).setCell ⟨B, 4, none⟩ v4).heap[B]? = some (.cells #[v0, v1, v2, v3, v4] T fr) :=
 set_block (i := 4) (set_block (i := 3) (set_block (i := 2) (set_block (i := 1) (set_block (i := 0) h v0) v1) v2) v3) v4
theorem ApS.loc5 {κ0 : Nat → Nat} {w0 wx : World} {κ : Nat → Nat} {A C T : Nat} {idx : Int} {c : CertV} {cnt M : Nat} {D : DataW Unit} {f : Int → Option (Nat × SV)} {B : Nat} {cs : Array Value} {T' : TypeId} (h : ApS κ0 w0 wx κ A C T idx c cnt M D f) (hl : Loc w0 wx κ B cs T') (v0 v1 v2 v3 v4 : Value) :
 ApS κ0 w0 (((((wx.setCell ⟨B, 0, none⟩ v0).setCell ⟨B, 1, none⟩ v1).setCell ⟨B, 2, none⟩ v2).setCell ⟨B, 3, none⟩ v3).setCell ⟨B, 4, none⟩ v4) κ A C T idx c cnt M D f :=
 ((((h.loc hl 0 v0).loc (hl.set 0 v0) 1 v1).loc ((hl.set 0 v0).set 1 v1) 2 v2).loc (((hl.set 0 v0).set 1 v1).set 2 v2) 3 v3).loc ((((hl.set 0 v0).set 1 v1).set 2 v2).set 3 v3) 4 v4
theorem Row8.not {w : World} {a : Option Addr} {n B : Nat} {bs : List UInt8} {cs : Array Value} {T : TypeId} {fr : Nat × Nat} (h : Row8 w a n bs) (hB : w.heap[B]? = some (.cells cs T fr)) (hcs : ∀ (o : Nat) k, cs[o]? ≠ some (.int .u8 k)) : ∀ b off, a = some ⟨b, off, none⟩ → 0 < n → b ≠ B := fun b off e hn hb => by
 obtain ⟨b', off', e', c, _, _, hc⟩ := h.at 0 hn
 rw [e] at e'
 injection e' with e'
 injection e' with e1 e2
 subst e1 e2 hb
 simp only [World.cell?, hB] at hc
 exact hcs (off + 0) _ (by simpa using hc)
theorem step_range {c c' : CertV} {s : SubP} {code num : Int} (h : c.Ok) (hck : checkP s = 0) (hs : Step c s code num c') : 0 ≤ code ∧ code ≤ 999 ∧ num40 num := by
 obtain ⟨h1, h2⟩ := hs
 have hc := h.count
 have hr : 0 ≤ code ∧ code ≤ 999 ∧ (code = 0 → c.count ≠ 1099511627776) := by
  rw [h1]
  unfold refuseP
  rw [if_neg (by simpa using hck)]
  repeat' split
  all_goals exact ⟨by decide, by decide, fun h => by first | exact absurd h (by decide) | assumption⟩
 refine ⟨hr.1, hr.2.1, ?_⟩
 unfold num40
 rcases h2 with ⟨_, h, _⟩ | ⟨h0, h, _⟩
 · omega
 · have := hr.2.2 h0
   omega
def ApPost (κ : Nat → Nat) (w : World) (A C T : Nat) (idx : Int) (c : CertV) (cnt : Nat) (s : SubP) (f : Int → Option (Nat × SV)) (sz : Nat) (e : Ending) (w' : World) : Prop :=
 ∃ (κ' : Nat → Nat) (c' : CertV) (se sq code num : Int) (fresh : Bool) (M' : Nat) (D' : DataW Unit) (f' : Int → Option (Nat × SV)), e = .returned (.tuple #[.agg #[.int .i64 se, .int .i64 sq, .int .i64 code, .int .i64 num, .bool fresh], .int .i64 0]) ∧
  Chg JM κ κ' w w' ∧ MachAt w' κ' A C T idx c' (cnt + 1) M' D' f' ∧ ((fresh = false ∧ c' = c) ∨ (fresh = true ∧ Step c s code num c' ∧ ¬ Blkd (f s.session) s.seq ∧ Blkd (f' s.session) s.seq)) ∧ (Free (f s.session) sz s.seq → fresh = true) ∧ ∀ x q, Blkd (f x) q → Blkd (f' x) q
set_option maxRecDepth 100000 in
set_option maxHeartbeats 25600000 in
theorem apply_any (κ : Nat → Nat) (A C T : Nat) (idx ix1 : Int) (hix : ix1 = idx + 1) (hidx : 0 ≤ idx ∧ idx ≤ 1000000) (c : CertV) (hok : c.Ok) (cnt M : Nat) (hcnt : cnt ≤ 800) (D : DataW Unit) (f : Int → Option (Nat × SV)) (s : SubP) (hs : s.Right) (hck : checkP s = 0) (hse : 1 ≤ s.session ∧ s.session ≤ 4) (da : Option Addr) (dn dc : Nat) (w : World) (hm : MachAt w κ A C T idx c cnt M D f) (hd : Row8 w da dn (subBytes s)) (hdc : dn ≤ dc) (hdm : dc ≤ maxLen) (hdn : da = none → dc = 0) :
 Calls Tryz.prog 19 #[.pointer (some ⟨A, 0, none⟩), .agg #[.int .i64 ix1, .int .i64 0, .int .i64 1, .slice da dn dc]] w (ApPost κ w A C T ix1 c cnt s f (Maps.size D)) := by
 obtain ⟨post, hpost⟩ : ∃ post, post = ApPost κ w A C T ix1 c cnt s f (Maps.size D) := ⟨_, rfl⟩
 rw [← hpost]
 obtain ⟨EB, hEB⟩ : ∃ EB, EB = w.heap.size := ⟨_, rfl⟩
 obtain ⟨X, hX⟩ : ∃ X, X = (w.alloc (.cells #[.int .i64 ix1, .int .i64 0, .int .i64 1, .slice da dn dc] 61)).alloc (.cells #[.int .i64 0, .int .i64 0, .int .i64 0, .int .i64 0, .bool false] 57) := ⟨_, rfl⟩
 have hbX : Below w.heap.size w X := hX ▸ below_alloc (below_alloc (Below.refl _ _) _) _
 have hcX := chg_tint (κ := κ) (i := 0) hbX
 have hEX : Loc w X (tint w κ 0) EB #[.int .i64 ix1, .int .i64 0, .int .i64 1, .slice da dn dc] 61 := ⟨by rw [hX, hEB]; exact alloc_keep (heap_alloc_new w _) _, tint_new (by omega), by omega⟩
 have hRX : Loc w X (tint w κ 0) (EB + 1) #[.int .i64 0, .int .i64 0, .int .i64 0, .int .i64 0, .bool false] 57 := ⟨by rw [hX, hEB]; exact alloc_new1 w _ _, tint_new (by omega), by omega⟩
 have hSX : ApS κ w X (tint w κ 0) A C T idx c cnt M D f := ⟨hm.chg hcX (fun _ h => h.elim), hcX.mono fun _ h => h.elim⟩
 obtain ⟨κ1, hκ1⟩ : ∃ κ1, κ1 = tint w κ 0 := ⟨_, rfl⟩
 have hk0 : ∀ g, w.heap.size ≤ g → κ1 g = 0 := fun g hg => hκ1 ▸ tint_new hg
 rw [← hκ1] at hEX hRX hSX
 have HPOST := Lib.hid hpost
 have HX := Lib.hid hX
 have HE := Lib.hid hEX
 have HR := Lib.hid hRX
 have HS := Lib.hid hSX
 have HD := Lib.hid (hd.below hbX)
 have HK0 := Lib.hid hk0
 have HSR := Lib.hid hs
 have HCK := Lib.hid hck
 have HOK := Lib.hid hok
 have HSE := Lib.hid hse
 have HEB := Lib.hid hEB
 have hw1 : IntKind.i64.wrap (idx + 1) = ix1 := by rw [IntKind.wrap_i64, hix]; omega
 have hw2 : wrap64 (idx + 1) = ix1 := by unfold wrap64; omega
 obtain ⟨e0, e1, e2, e3⟩ := (four_cells hEX.cell).1
 obtain ⟨m0, m1, m2, mf2⟩ := machCells hSX.mach
 have HIX := Lib.hid hix
 clear hix hpost hX hbX hcX hEX hRX hSX hκ1 hk0 hd hs hck hok hse hEB hm
 have mixed : Tryz.prog.follows .mixedOrders = true := by kernel_rfl
 go_enter Tryz.func19, Tryz.ntmps19
 go_upto_region 1 with fail
 rw [← HX.out, ← HEB.out]
 clear HX
 go_quiet (fail)
 obtain ⟨X1, hX1⟩ : ∃ X1, X1 = X.drewN nq := ⟨_, rfl⟩
 have hb1 : Below X.heap.size X X1 := hX1 ▸ below_drewN (Below.refl _ _) _
 rw [← hX1]
 clear hX1 e0 e1 e2 e3 m0 m1 m2 mf2 hw1 hw2
 have HS1 := Lib.hid (HS.out.below hb1)
 have HE1 := Lib.hid (HE.out.below hb1)
 have HR1 := Lib.hid (HR.out.below hb1)
 have HD1 := Lib.hid (HD.out.below hb1)
 clear hb1 HS HE HR HD
 obtain ⟨e0, _, _, _⟩ := (four_cells HE1.out.cell).1
 obtain ⟨_, _, m2, mf2⟩ := machCells HS1.out.mach
 obtain ⟨X2, hX2⟩ : ∃ X2, X2 = X1.setCell ⟨A, 2, none⟩ (.int .i64 ix1) := ⟨_, rfl⟩
 have hEA : EB ≠ A := fun e => by have h1 := HS1.out.mach.colA; rw [← e, HE1.out.col] at h1; omega
 have hRA : EB + 1 ≠ A := fun e => by have h1 := HS1.out.mach.colA; rw [← e, HR1.out.col] at h1; omega
 have HS2 : Hid (ApS κ w X2 κ1 A C T ix1 c cnt M D f) := hX2 ▸ HS1.out.index ix1
 have HE2 : Hid (Loc w X2 κ1 EB #[.int .i64 ix1, .int .i64 0, .int .i64 1, .slice da dn dc] 61) := hX2 ▸ HE1.out.far 2 _ hEA
 have HR2 : Hid (Loc w X2 κ1 (EB + 1) #[.int .i64 0, .int .i64 0, .int .i64 0, .int .i64 0, .bool false] 57) := hX2 ▸ HR1.out.far 2 _ hRA
 have HD2 : Hid (Row8 X2 da dn (subBytes s)) := hX2 ▸ HD1.out.set _ (HD1.out.not HS1.out.mach.var (fun o k => by match o with
  | 0 => simp
  | 1 => simp
  | 2 => simp
  | o + 3 => simp))
 have HX2 := Lib.hid hX2
 clear hX2 HS1 HE1 HR1 HD1 hEA hRA
 go_upto_region 4 with fail
 rw [← HX2.out]
 clear HX2 e0 m2 mf2
 obtain ⟨_, _, e2, e3⟩ := (four_cells HE2.out.cell).1
 have HDC := Lib.hid (decode_ok da dn dc s HSR.out HCK.out X2 HD2.out hdc hdm hdn)
 have HXW : Hid (w.heap.size ≤ X2.heap.size) := HS2.out.chg.size
 go_wp2_with fail
 refine HDC.out.mono ?_
 rintro e w3 ⟨m, hms, he, hmok, hb3, hra, hsa, hwa⟩
 rw [show m.args = Value.agg #[.int .i64 m.s.session, .int .i64 m.s.seq, .int .i64 m.s.snap, .slice m.ra m.s.reads.length m.rc, .slice m.sa m.s.spans.length m.sc, .slice m.wa m.s.writes.length m.wc] from rfl] at he
 subst he
 have HMS := Lib.hid hms
 have hb23 : Below X2.heap.size X2 w3 := hb3
 obtain ⟨SB, hSB⟩ : ∃ SB, SB = w3.heap.size := ⟨_, rfl⟩
 obtain ⟨X3, hX3⟩ : ∃ X3, X3 = w3.alloc (.cells #[.int .i64 m.s.session, .int .i64 m.s.seq, .int .i64 m.s.snap, .slice m.ra m.s.reads.length m.rc, .slice m.sa m.s.spans.length m.sc, .slice m.wa m.s.writes.length m.wc] 26) := ⟨_, rfl⟩
 have hb3X : Below w3.heap.size w3 X3 := hX3 ▸ below_alloc (Below.refl _ _) _
 obtain ⟨AB, hAB⟩ : ∃ AB, AB = X3.heap.size := ⟨_, rfl⟩
 obtain ⟨X4, hX4⟩ : ∃ X4, X4 = X3.alloc (.cells #[.int .i64 m.s.session, .int .i64 m.s.seq, .int .i64 0, .int .i64 0, .bool false] 57) := ⟨_, rfl⟩
 have hb4X : Below X3.heap.size X3 X4 := hX4 ▸ below_alloc (Below.refl _ _) _
 have hb4 : Below X2.heap.size X2 X4 := below_then (below_then hb23 hb3X) hb4X
 have hszw : w.heap.size ≤ w3.heap.size := Nat.le_trans HXW.out hb23.size
 have hSX3 : X3.heap[SB]? = some (.cells #[.int .i64 m.s.session, .int .i64 m.s.seq, .int .i64 m.s.snap, .slice m.ra m.s.reads.length m.rc, .slice m.sa m.s.spans.length m.sc, .slice m.wa m.s.writes.length m.wc] 26 (0, 0)) := by rw [hX3, hSB]; exact heap_alloc_new w3 _
 have hAX4 : X4.heap[AB]? = some (.cells #[.int .i64 m.s.session, .int .i64 m.s.seq, .int .i64 0, .int .i64 0, .bool false] 57 (0, 0)) := by rw [hX4, hAB]; exact heap_alloc_new X3 _
 have hszA : w.heap.size ≤ AB := by have := hb3X.size; omega
 have hRl := lt_of_block HR2.out.cell
 have HB : Hid (ApB κ w X4 κ1 A C T ix1 c cnt M D f m SB AB (EB + 1) 0 0 false) := ⟨HS2.out.below hb4, ⟨(hb4X.block _ (lt_of_block hSX3)).trans hSX3, HK0.out _ (by omega), by omega⟩, ⟨hAX4, HK0.out _ hszA, hszA⟩, HR2.out.below hb4, by have := lt_of_block hSX3; omega, by have := hb23.size; have := hb3X.size; omega⟩
 have HMO : Hid (m.ok X4) := (hmok.below hb3X).below hb4X
 have HAW : Hid (Away κ1 10 m) := ⟨fun b off e _ => .inl (by rw [HK0.out b (Nat.le_trans HXW.out (hra b off e))]; omega), fun b off e _ => .inl (by rw [HK0.out b (Nat.le_trans HXW.out (hsa b off e))]; omega), fun b off e _ => .inl (by rw [HK0.out b (Nat.le_trans HXW.out (hwa b off e))]; omega)⟩
 obtain ⟨s0, s1, _, _, _, _⟩ := six_cells hSX3
 have HX3 := Lib.hid hX3
 have HX4 := Lib.hid hX4
 have HSBE := Lib.hid hSB
 have HABE := Lib.hid hAB
 clear hms hmok hb3 hb23 hra hsa hwa hX3 hX4 hSB hAB hb3X hb4X hb4 hszw hSX3 hAX4 hszA hRl HDC HS2 HE2 HR2 HD2 e2 e3
 go_upto_region 7 with fail
 rw [← HX3.out, ← HSBE.out]
 clear HX3 HSBE
 go_upto_region 10 with fail
 rw [← HX4.out, ← HABE.out]
 clear HX4 HABE s0 s1
 obtain ⟨Y, hY⟩ : ∃ Y, Y = X4 := ⟨_, rfl⟩
 rw [← hY] at HB HMO ⊢
 clear hY
 have hwl : ∀ W, Below Y.heap.size Y W → (fun w' => w'.cell? ⟨A, 1, none⟩ = some (.pointer (some ⟨T, 0, none⟩)) ∧ w'.cell? ⟨SB, 0, none⟩ = some (.int .i64 m.s.session) ∧ w'.cell? ⟨SB, 1, none⟩ = some (.int .i64 m.s.seq)) W := fun W hb => by
  obtain ⟨_, q1, _, _⟩ := machCells (HB.out.below hb).s.mach
  obtain ⟨q2, q3, _, _, _, _⟩ := six_cells (HB.out.below hb).sb.cell
  exact ⟨q1, q2, q3⟩
 have HKEEP := Lib.hid hwl
 have hse4 := HSE.out
 rw [← HMS.out] at hse4
 have hsr := HSR.out
 rw [← HMS.out] at hsr
 have HLK := Lib.hid (fun W (hb : Below Y.heap.size Y W) => look_any κ1 T cnt M D f m.s.session m.s.seq hsr.session hsr.seq (by omega) W (HB.out.below hb).s.mach.tab)
 have HSR2 := Lib.hid hsr
 clear hwl hsr
 go_cut [9, 10] (fun s9 s10 wx => ∃ (VB : Nat) (c1 n1 code : Int), s9 = .pointer (some ⟨VB, 0, none⟩) ∧ s10 = .int .i64 code ∧ Hid (ApB κ w wx κ1 A C T ix1 c cnt M D f m SB AB (EB + 1) 0 0 false) ∧ Hid (wx.heap[VB]? = some (.cells #[.int .i64 c1, .int .i64 n1] 35 (0, 0))) ∧ Hid (m.ok wx) ∧ Hid (code = 0 ↔ Free (f m.s.session) (Maps.size D) m.s.seq))
 case first =>
  refine wp_region_noPanic ?_
  refine wp_region_held_drew (S := (fun w' => w'.cell? ⟨A, 1, none⟩ = some (.pointer (some ⟨T, 0, none⟩)) ∧ w'.cell? ⟨SB, 0, none⟩ = some (.int .i64 m.s.session) ∧ w'.cell? ⟨SB, 1, none⟩ = some (.int .i64 m.s.seq))) (by kernel_rfl) ?_ (fun hHeld0 => ?_)
  · refine HKEEP.out _ ?_; (repeat (first | assumption | exact Below.refl _ _ | refine below_alloc ?_ _ | refine below_set ?_ _ (by omega) | refine Below.drew ?_))
  refine wu 0 rfl ?_
  refine wu 1 rfl ?_
  refine wu 2 rfl ?_
  refine wu 3 rfl ?_
  refine wu 4 rfl ?_
  refine wu 5 rfl ?_
  refine wu 6 rfl ?_
  refine wu 7 rfl ?_
  refine wz 8 12 rfl (fun K hK => ?_) rfl fun K hK => ?_
  · skip
    go_simp
    have hpre := (Below.refl Y.heap.size Y).drew
    refine (HLK.out _ hpre).mono ?_
    rintro e w5 ⟨c1, n1, code, rfl, hb5', hcode⟩
    have hb5 := below_then hpre hb5'
    have hys := hb5.size
    clear hb5' hpre
    go_wp2_with fail
    refine hK.out _ _ ?_ (fun hHeld1 => ?_)
    · refine HKEEP.out _ ?_; (repeat (first | assumption | exact Below.refl _ _ | refine below_alloc ?_ _ | refine below_set ?_ _ (by omega) | refine Below.drew ?_))
    clear hK K hHeld0
    (try simp only [Act.put]); (try simp only [List.setIfInBounds_toArray]); (try simp only [List.set])
    refine wu 9 rfl ?_
    refine wu 10 rfl ?_
    refine wu 11 rfl ?_
    refine wy 12 rfl fun K hK => ?_
    go_simp
    refine hK.out _ _ ?_ (fun hHeld2 => ?_)
    · refine HKEEP.out _ ?_; (repeat (first | assumption | exact Below.refl _ _ | refine below_alloc ?_ _ | refine below_set ?_ _ (by omega) | refine Below.drew ?_))
    clear hK K hHeld1
    (try simp only [Act.put]); (try simp only [List.setIfInBounds_toArray]); (try simp only [List.set])
    refine wy 13 rfl fun K hK => ?_
    go_simp
    refine hK.out _ _ ?_ (fun hHeld3 => ?_)
    · refine HKEEP.out _ ?_; (repeat (first | assumption | exact Below.refl _ _ | refine below_alloc ?_ _ | refine below_set ?_ _ (by omega) | refine Below.drew ?_))
    clear hK K hHeld2
    (try simp only [Act.put]); (try simp only [List.setIfInBounds_toArray]); (try simp only [List.set])
    refine wu 14 rfl ?_
    refine wpAnyH_done (by kernel_rfl) ?_ _
    refine NoPanic.normal ?_
    have hbW : Below Y.heap.size Y (w5.alloc (.cells #[.int .i64 c1, .int .i64 n1] 35)) := below_alloc hb5 _
    have hvW := heap_alloc_new w5 (.cells #[.int .i64 c1, .int .i64 n1] 35)
    have hR : Hid (ApB κ w _ κ1 A C T ix1 c cnt M D f m SB AB (EB + 1) 0 0 false) := HB.out.below hbW
    have hM : Hid (m.ok _) := HMO.out.below hbW
    go_wp2_with fail
    go_meet
    exact ⟨_, c1, n1, code, rfl, rfl, hR, hvW, hM, hcode⟩
  · skip
    go_simp
    refine hK.out _ _ ?_ (fun hHeld4 => ?_)
    · refine HKEEP.out _ ?_; (repeat (first | assumption | exact Below.refl _ _ | refine below_alloc ?_ _ | refine below_set ?_ _ (by omega) | refine Below.drew ?_))
    clear hK K hHeld0
    (try simp only [Act.put]); (try simp only [List.setIfInBounds_toArray]); (try simp only [List.set])
    refine wy 8 rfl fun K hK => ?_
    go_simp
    have hpre := (below_alloc (Below.refl Y.heap.size Y) (.cells #[.int .i64 0, .int .i64 0] 35)).drew
    refine (HLK.out _ hpre).mono ?_
    rintro e w5 ⟨c1, n1, code, rfl, hb5', hcode⟩
    have hb5 := below_then hpre hb5'
    have hv5 : w5.heap[Y.heap.size]? = some (.cells #[.int .i64 0, .int .i64 0] 35 (0, 0)) := (hb5'.block _ (by simp)).trans (heap_alloc_new Y _)
    obtain ⟨vv0, vv1, vf0, vf1⟩ := two_cells hv5
    have hys := hb5.size
    clear hb5' hpre
    go_wp2_with fail
    refine hK.out _ _ ?_ (fun hHeld5 => ?_)
    · refine HKEEP.out _ ?_; (repeat (first | assumption | exact Below.refl _ _ | refine below_alloc ?_ _ | refine below_set ?_ _ (by omega) | refine Below.drew ?_))
    clear hK K hHeld4
    (try simp only [Act.put]); (try simp only [List.setIfInBounds_toArray]); (try simp only [List.set])
    refine wu 9 rfl ?_
    refine wu 10 rfl ?_
    refine wu 11 rfl ?_
    refine wy 13 rfl fun K hK => ?_
    go_simp
    refine hK.out _ _ ?_ (fun hHeld6 => ?_)
    · refine HKEEP.out _ ?_; (repeat (first | assumption | exact Below.refl _ _ | refine below_alloc ?_ _ | refine below_set ?_ _ (by omega) | refine Below.drew ?_))
    clear hK K hHeld5
    (try simp only [Act.put]); (try simp only [List.setIfInBounds_toArray]); (try simp only [List.set])
    refine wu 14 rfl ?_
    refine wpAnyH_done (by kernel_rfl) ?_ _
    refine NoPanic.normal ?_
    have hbW : Below Y.heap.size Y ((w5.setCell ⟨Y.heap.size, 0, none⟩ (.int .i64 c1)).setCell ⟨Y.heap.size, 1, none⟩ (.int .i64 n1)) := below_set (below_set hb5 _ (by omega)) _ (by omega)
    have hvW := set2 hv5 (.int .i64 c1) (.int .i64 n1)
    have hR : Hid (ApB κ w _ κ1 A C T ix1 c cnt M D f m SB AB (EB + 1) 0 0 false) := HB.out.below hbW
    have hM : Hid (m.ok _) := HMO.out.below hbW
    go_wp2_with fail
    go_meet
    exact ⟨_, c1, n1, code, rfl, rfl, hR, hvW, hM, hcode⟩
 case rest =>
  obtain ⟨VB, c1, n1, code, rfl, rfl, HB5, HV5, HM5, HC5⟩ := hcut
  obtain ⟨Z, hZ⟩ : ∃ Z, Z = wc := ⟨_, rfl⟩
  rw [← hZ] at HB5 HV5 HM5
  rw [← hZ]
  clear hZ HB HMO HKEEP HLK
  have HFIN : Hid (∀ (κ' : Nat → Nat) (c' : CertV) (W : World) (cnt' M' : Nat) (D' : DataW Unit) (f' : Int → Option (Nat × SV)) (a2 a3 : Int) (a4 : Bool), cnt' ≤ cnt + 1 → ApB κ w W κ' A C T ix1 c' cnt' M' D' f' m SB AB (EB + 1) a2 a3 a4 → ((a4 = false ∧ c' = c) ∨ (a4 = true ∧ Step c m.s a2 a3 c' ∧ ¬ Blkd (f m.s.session) m.s.seq ∧ Blkd (f' m.s.session) m.s.seq)) → (Free (f m.s.session) (Maps.size D) m.s.seq → a4 = true) → (∀ x q, Blkd (f x) q → Blkd (f' x) q) → post (.returned (.tuple #[.agg #[.int .i64 m.s.session, .int .i64 m.s.seq, .int .i64 a2, .int .i64 a3, .bool a4], .int .i64 0])) (((((W.setCell ⟨EB + 1, 0, none⟩ (.int .i64 m.s.session)).setCell ⟨EB + 1, 1, none⟩ (.int .i64 m.s.seq)).setCell ⟨EB + 1, 2, none⟩ (.int .i64 a2)).setCell ⟨EB + 1, 3, none⟩ (.int .i64 a3)).setCell ⟨EB + 1, 4, none⟩ (.bool a4))) := fun κ' c' W cnt' M' D' f' a2 a3 a4 hle h1 h2 h3 h4 => by
   rw [HPOST.out, ← HMS.out]
   have hs := h1.s.loc5 h1.rb (.int .i64 m.s.session) (.int .i64 m.s.seq) (.int .i64 a2) (.int .i64 a3) (.bool a4)
   exact ⟨κ', c', _, _, a2, a3, a4, M', D', f', rfl, hs.chg, ⟨hs.mach.var, hs.mach.colA, hs.mach.cert, hs.mach.tab.mono hle⟩, h2, h3, h4⟩
  have HOKC := HOK
  by_cases h5 : code = 5
  · subst h5
    obtain ⟨q0, q1, _, _⟩ := two_cells HV5.out
    obtain ⟨_, _, _, b3, b4, _⟩ := five_facts HB5.out.ab.cell
    obtain ⟨_, _, _, b2, b3, _⟩ := five_facts HB5.out.ab.cell
    obtain ⟨V, hV⟩ : ∃ V, V = (Z.setCell ⟨AB, 2, none⟩ (.int .i64 c1)).setCell ⟨AB, 3, none⟩ (.int .i64 n1) := ⟨_, rfl⟩
    have HP : Hid (ApB κ w V κ1 A C T ix1 c cnt M D f m SB AB (EB + 1) c1 n1 false) := hV ▸ (HB5.out.set2 c1).set3 n1
    have HV := Lib.hid hV
    clear hV
    go_upto_region 18 with fail
    rw [← HV.out]
    clear HV q0 q1 b2 b3
    obtain ⟨⟨r0, r1, r2, r3, r4⟩, _⟩ := five_facts HP.out.ab.cell
    obtain ⟨⟨t0, t1, t2, t3, t4⟩, tf0, tf1, tf2, tf3, tf4⟩ := five_facts HP.out.rb.cell
    go_wp2_with fail
    exact bodyPost_ret (results_cell_tmp Tryz.results19 rfl (load_answer (five_set HP.out.rb.cell _ _ _ _ _))) rfl (HFIN.out _ _ _ _ _ _ _ _ _ _ (Nat.le_succ _) HP.out (.inl ⟨rfl, rfl⟩) (fun h => by have := HC5.out.2 h; omega) (fun _ _ h => h))
  · by_cases h0 : code = 0
    · subst h0
      have HBD := Lib.hid (HB5.out.below (Below.refl _ _).drew)
      have HDE := Lib.hid (decide_any κ1 10 C c HOK.out m Z.drew HBD.out.s.mach.cert (HM5.out.below (Below.refl _ _).drew) HAW.out)
      obtain ⟨_, _, _, b2, b3, b4⟩ := five_facts HB5.out.ab.cell
      go_upto_region 16 with fail
      refine wp_region_noPanic ?_
      refine wp_region_held_drew (S := (fun w' => w'.cell? ⟨A, 0, none⟩ = some (.pointer (some ⟨C, 0, none⟩)) ∧ w'.cell? ⟨SB, 0, none⟩ = some (.int .i64 m.s.session) ∧ w'.cell? ⟨SB, 1, none⟩ = some (.int .i64 m.s.seq) ∧ w'.cell? ⟨SB, 2, none⟩ = some (.int .i64 m.s.snap) ∧ w'.cell? ⟨SB, 3, none⟩ = some (.slice m.ra m.s.reads.length m.rc) ∧ w'.cell? ⟨SB, 4, none⟩ = some (.slice m.sa m.s.spans.length m.sc) ∧ w'.cell? ⟨SB, 5, none⟩ = some (.slice m.wa m.s.writes.length m.wc))) (by kernel_rfl) ?_ (fun hHeld0 => ?_)
      · first | exact HBD.out.cells | exact HB6.out.cells | exact ((HB6.out.set2 code2).set3 num).cells | exact (HB6.out.set4 true).cells | exact (((HB6.out.set2 code2).set3 num).set4 true).cells | exact (((HB6.out.set4 true).set2 code2).set3 num).cells
      refine wu 0 rfl ?_
      refine wu 1 rfl ?_
      refine wu 2 rfl ?_
      refine wu 3 rfl ?_
      refine wu 4 rfl ?_
      refine wy 5 rfl fun K hK => ?_
      go_simp
      refine HDE.out.mono ?_
      rintro e w6 ⟨κ2, c', code2, num, rfl, hc6, hC6, hst⟩
      have HB6 := Lib.hid (HBD.out.chg hc6 (by omega) (HBD.out.s.decide hc6 hC6))
      have HST := Lib.hid hst
      have HSRG := Lib.hid (step_range HOK.out (by rw [HMS.out]; exact HCK.out) hst)
      obtain ⟨_, _, _, b2, b3, b4⟩ := five_facts HB6.out.ab.cell
      have hSA := HB6.out.ne1
      clear hc6 hC6 hst HDE
      go_wp2_with fail
      refine hK.out _ _ ?_ (fun hHeld1 => ?_)
      · first | exact HBD.out.cells | exact HB6.out.cells | exact ((HB6.out.set2 code2).set3 num).cells | exact (HB6.out.set4 true).cells | exact (((HB6.out.set2 code2).set3 num).set4 true).cells | exact (((HB6.out.set4 true).set2 code2).set3 num).cells
      clear hK K hHeld0
      (try simp only [Act.put]); (try simp only [List.setIfInBounds_toArray]); (try simp only [List.set])
      refine wu 6 rfl ?_
      refine wy 7 rfl fun K hK => ?_
      go_simp
      refine hK.out _ _ ?_ (fun hHeld2 => ?_)
      · first | exact HBD.out.cells | exact HB6.out.cells | exact ((HB6.out.set2 code2).set3 num).cells | exact (HB6.out.set4 true).cells | exact (((HB6.out.set2 code2).set3 num).set4 true).cells | exact (((HB6.out.set4 true).set2 code2).set3 num).cells
      clear hK K hHeld1
      (try simp only [Act.put]); (try simp only [List.setIfInBounds_toArray]); (try simp only [List.set])
      refine wu 8 rfl ?_
      refine wy 9 rfl fun K hK => ?_
      go_simp
      refine hK.out _ _ ?_ (fun hHeld3 => ?_)
      · first | exact HBD.out.cells | exact HB6.out.cells | exact ((HB6.out.set2 code2).set3 num).cells | exact (HB6.out.set4 true).cells | exact (((HB6.out.set2 code2).set3 num).set4 true).cells | exact (((HB6.out.set4 true).set2 code2).set3 num).cells
      clear hK K hHeld2
      (try simp only [Act.put]); (try simp only [List.setIfInBounds_toArray]); (try simp only [List.set])
      refine wpAnyH_done (by kernel_rfl) ?_ _
      refine NoPanic.normal ?_
      obtain ⟨V, hV⟩ : ∃ V, V = ((w6.setCell ⟨AB, 2, none⟩ (.int .i64 code2)).setCell ⟨AB, 3, none⟩ (.int .i64 num)).setCell ⟨AB, 4, none⟩ (.bool true) := ⟨_, rfl⟩
      have HB7 : Hid (ApB κ w V κ2 A C T ix1 c' cnt M D f m SB AB (EB + 1) code2 num true) := hV ▸ ((HB6.out.set2 code2).set3 num).set4 true
      have HV := Lib.hid hV
      clear hV HB6 b2 b3 b4 hSA
      go_upto_region 17 with fail
      rw [← HV.out]
      clear HV
      have hk17 : ∀ (κ' : Nat → Nat) (W : World) (cnt' M' : Nat) (D' : DataW Unit) (f' : Int → Option (Nat × SV)), ApB κ w W κ' A C T ix1 c' cnt' M' D' f' m SB AB (EB + 1) code2 num true → (fun w' => w'.cell? ⟨A, 1, none⟩ = some (.pointer (some ⟨T, 0, none⟩)) ∧ w'.cell? ⟨SB, 0, none⟩ = some (.int .i64 m.s.session) ∧ w'.cell? ⟨SB, 1, none⟩ = some (.int .i64 m.s.seq) ∧ w'.cell? ⟨AB, 2, none⟩ = some (.int .i64 code2) ∧ w'.cell? ⟨AB, 3, none⟩ = some (.int .i64 num)) W := fun κ' W cnt' M' D' f' h => by
       obtain ⟨_, q1, _, _⟩ := machCells h.s.mach
       obtain ⟨q2, q3, _, _, _, _⟩ := six_cells h.sb.cell
       obtain ⟨⟨_, _, q4, q5, _⟩, _⟩ := five_facts h.ab.cell
       exact ⟨q1, q2, q3, q4, q5⟩
      have HK17 := Lib.hid hk17
      have HB7D := Lib.hid (HB7.out.below (Below.refl _ _).drew)
      have HPT := Lib.hid (sput_any κ2 T cnt M D f m.s.session m.s.seq code2 num hse4 HSR2.out.seq HSRG.out.1 HSRG.out.2.1 HSRG.out.2.2 (by omega) V.drew HB7D.out.s.mach.tab (HC5.out.1 (by simp)))
      clear hk17
      refine wp_region_noPanic ?_
      refine wp_region_held_drew (S := (fun w' => w'.cell? ⟨A, 1, none⟩ = some (.pointer (some ⟨T, 0, none⟩)) ∧ w'.cell? ⟨SB, 0, none⟩ = some (.int .i64 m.s.session) ∧ w'.cell? ⟨SB, 1, none⟩ = some (.int .i64 m.s.seq) ∧ w'.cell? ⟨AB, 2, none⟩ = some (.int .i64 code2) ∧ w'.cell? ⟨AB, 3, none⟩ = some (.int .i64 num))) (by kernel_rfl) ?_ (fun hHeld0 => ?_)
      · first | exact HK17.out _ _ _ _ _ _ HB7D.out | exact HK17.out _ _ _ _ _ _ HB8.out
      refine wu 0 rfl ?_
      refine wu 1 rfl ?_
      refine wu 2 rfl ?_
      refine wu 3 rfl ?_
      refine wu 4 rfl ?_
      refine wu 5 rfl ?_
      refine wu 6 rfl ?_
      refine wu 7 rfl ?_
      refine wu 8 rfl ?_
      refine wu 9 rfl ?_
      refine wy 10 rfl fun K hK => ?_
      go_simp
      refine HPT.out.mono ?_
      rintro e w7 ⟨κ3, M3, D3, f3, rfl, hc7, hT7, hbk⟩
      have HBK := Lib.hid hbk
      have HB8 := Lib.hid (HB7D.out.chg hc7 (fun h => by unfold J40 at h; omega) (HB7D.out.s.put hc7 hT7))
      clear hc7 hT7 hbk HPT
      go_wp2_with fail
      refine hK.out _ _ ?_ (fun hHeld1 => ?_)
      · first | exact HK17.out _ _ _ _ _ _ HB7D.out | exact HK17.out _ _ _ _ _ _ HB8.out
      clear hK K hHeld0
      (try simp only [Act.put]); (try simp only [List.setIfInBounds_toArray]); (try simp only [List.set])
      refine wpAnyH_done (by kernel_rfl) ?_ _
      refine NoPanic.normal ?_
      go_upto_region 18 with fail
      have HP := HB8
      obtain ⟨⟨r0, r1, r2, r3, r4⟩, _⟩ := five_facts HP.out.ab.cell
      obtain ⟨⟨t0, t1, t2, t3, t4⟩, tf0, tf1, tf2, tf3, tf4⟩ := five_facts HP.out.rb.cell
      go_wp2_with fail
      exact bodyPost_ret (results_cell_tmp Tryz.results19 rfl (load_answer (five_set HP.out.rb.cell _ _ _ _ _))) rfl (HFIN.out _ _ _ _ _ _ _ _ _ _ (Nat.le_refl _) HP.out (.inr ⟨rfl, HST.out, (HC5.out.1 (by simp)).not, HBK.out _ _ (.inr ⟨rfl, rfl⟩)⟩) (fun _ => rfl) (fun x q h => HBK.out x q (.inl h)))
    · obtain ⟨_, _, _, b2, _, _⟩ := five_facts HB5.out.ab.cell
      obtain ⟨V, hV⟩ : ∃ V, V = Z.setCell ⟨AB, 2, none⟩ (.int .i64 code) := ⟨_, rfl⟩
      have HP : Hid (ApB κ w V κ1 A C T ix1 c cnt M D f m SB AB (EB + 1) code 0 false) := hV ▸ HB5.out.set2 code
      have HV := Lib.hid hV
      have h5' : (code == 5) = false := by rw [beq_eq_false_iff_ne]; exact h5
      have h0' : (code == 0) = false := by rw [beq_eq_false_iff_ne]; exact h0
      clear hV
      go_upto_region 18 with fail
      rw [← HV.out]
      clear HV b2
      obtain ⟨⟨r0, r1, r2, r3, r4⟩, _⟩ := five_facts HP.out.ab.cell
      obtain ⟨⟨t0, t1, t2, t3, t4⟩, tf0, tf1, tf2, tf3, tf4⟩ := five_facts HP.out.rb.cell
      go_wp2_with fail
      exact bodyPost_ret (results_cell_tmp Tryz.results19 rfl (load_answer (five_set HP.out.rb.cell _ _ _ _ _))) rfl (HFIN.out _ _ _ _ _ _ _ _ _ _ (Nat.le_succ _) HP.out (.inl ⟨rfl, rfl⟩) (fun h => absurd (HC5.out.2 h) h0) (fun _ _ h => h))
end Go.Proofs.YtpknmfmpiachkaaGreat
namespace Go.Proofs.YtpknmfmpiachkaaGreat
open Go.RowKit Go.Maps
theorem Own8.slice {w : World} {base : Nat} {ao : Option Addr} {len cap : Nat} {bs : List UInt8} (h : Own8 w base ao len cap bs) : Row8 w ao len bs ∧ len ≤ cap ∧ cap ≤ maxLen ∧ (ao = none → cap = 0) := ⟨h.row, h.cap.1, h.cap.2, h.nocap⟩
theorem encode_ok (m : SubM) (w : World) (hm : m.ok w) (h : checkP m.s = 0) (N : Nat) (hN : N = (subBytes m.s).length) :
 Calls Tryz.prog 18 #[m.args] w fun e w' => ∃ ao cap, e = .returned (.tuple #[.slice ao N cap, .int .i64 0]) ∧ Own8 w' w.heap.size ao N cap (subBytes m.s) ∧ Below w.heap.size w w' := by
 subst hN
 exact encode_yes m w hm h
def RetBack (w : World) (x : SubM) (c : Int) (e : Ending) (w' : World) : Prop := e = .returned (x.snapTo (adjI c x.s.snap)).args ∧ Below w.heap.size w w'
theorem back_end {w Y W' : World} {x : SubM} {c sn : Int} (hb : Below w.heap.size w Y) (hsn : sn = adjI c x.s.snap) {a0 a1 a2 a3 a4 a5 : Value} (hR : Y.heap[w.heap.size + 1]? = some (.cells #[a0, a1, a2, a3, a4, a5] 26 (0, 0)))
 (hW : W' = (((((Y.setCell ⟨w.heap.size + 1, 0, none⟩ (.int .i64 x.s.session)).setCell ⟨w.heap.size + 1, 1, none⟩ (.int .i64 x.s.seq)).setCell ⟨w.heap.size + 1, 2, none⟩ (.int .i64 sn)).setCell ⟨w.heap.size + 1, 3, none⟩ (.slice x.ra x.s.reads.length x.rc)).setCell ⟨w.heap.size + 1, 4, none⟩ (.slice x.sa x.s.spans.length x.sc)).setCell ⟨w.heap.size + 1, 5, none⟩ (.slice x.wa x.s.writes.length x.wc)) :
 W'.heap[w.heap.size + 1]? = some (.cells #[.int .i64 x.s.session, .int .i64 x.s.seq, .int .i64 sn, .slice x.ra x.s.reads.length x.rc, .slice x.sa x.s.spans.length x.sc, .slice x.wa x.s.writes.length x.wc] 26 (0, 0)) ∧ RetBack w x c (.returned (.agg #[.int .i64 x.s.session, .int .i64 x.s.seq, .int .i64 sn, .slice x.ra x.s.reads.length x.rc, .slice x.sa x.s.spans.length x.sc, .slice x.wa x.s.writes.length x.wc])) W' := by
 subst hW hsn
 exact ⟨(six_set hR _ _ _ _ _ _).1, rfl, below_set (below_set (below_set (below_set (below_set (below_set hb _ (by omega)) _ (by omega)) _ (by omega)) _ (by omega)) _ (by omega)) _ (by omega)⟩
set_option maxRecDepth 100000 in
set_option maxHeartbeats 3200000 in
theorem back_any (x : SubM) (c : Int) (hc : 0 ≤ c ∧ c ≤ 1099511627776) (w : World) : Calls Tryz.prog 16 #[.agg #[.int .i64 x.s.session, .int .i64 x.s.seq, .int .i64 x.s.snap, .slice x.ra x.s.reads.length x.rc, .slice x.sa x.s.spans.length x.sc, .slice x.wa x.s.writes.length x.wc], .int .i64 c] w (RetBack w x c) := by
 obtain ⟨X, hX⟩ : ∃ X, X = (w.alloc (.cells #[.int .i64 x.s.session, .int .i64 x.s.seq, .int .i64 x.s.snap, .slice x.ra x.s.reads.length x.rc, .slice x.sa x.s.spans.length x.sc, .slice x.wa x.s.writes.length x.wc] 26)).alloc (.cells #[.int .i64 0, .int .i64 0, .int .i64 0, .slice none 0 0, .slice none 0 0, .slice none 0 0] 26) := ⟨_, rfl⟩
 have HB := Lib.hid (show Below w.heap.size w X from hX ▸ below_alloc (below_alloc (Below.refl _ _) _) _)
 have HX0 : Hid (X.heap[w.heap.size]? = some (.cells #[.int .i64 x.s.session, .int .i64 x.s.seq, .int .i64 x.s.snap, .slice x.ra x.s.reads.length x.rc, .slice x.sa x.s.spans.length x.sc, .slice x.wa x.s.writes.length x.wc] 26 (0, 0))) := hX ▸ alloc_keep (heap_alloc_new w _) _
 have HX1 : Hid (X.heap[w.heap.size + 1]? = some (.cells #[.int .i64 0, .int .i64 0, .int .i64 0, .slice none 0 0, .slice none 0 0, .slice none 0 0] 26 (0, 0))) := hX ▸ alloc_new1 w _ _
 have HX := Lib.hid hX
 clear hX
 go_enter Tryz.func16, Tryz.ntmps16
 go_upto_region 1 with fail
 rw [← HX.out]
 clear HX
 obtain ⟨c0, c1, c2, c3, c4, c5⟩ := six_cells HX0.out
 obtain ⟨r0, r1, r2, r3, r4, r5⟩ := six_frz HX1.out
 obtain ⟨q0, q1, q2, q3, q4, q5⟩ := six_cells HX1.out
 by_cases h1 : x.s.snap < 0
 · by_cases h2 : -50 < x.s.snap
   · have f2 : X.frozen? ⟨w.heap.size, 2, none⟩ = false := by have h := HX0.out; simp [World.frozen?, h]
     obtain ⟨Y, hY⟩ : ∃ Y, Y = X.setCell ⟨w.heap.size, 2, none⟩ (.int .i64 (max (c + 1 + x.s.snap) 0)) := ⟨_, rfl⟩
     have HBY : Hid (Below w.heap.size w Y) := hY ▸ below_set HB.out _ (Nat.le_refl _)
     have HY1 : Hid (Y.heap[w.heap.size + 1]? = _) := hY ▸ set_far HX1.out (by omega)
     have HY0 : Hid (Y.heap[w.heap.size]? = some (.cells #[.int .i64 x.s.session, .int .i64 x.s.seq, .int .i64 (max (c + 1 + x.s.snap) 0), .slice x.ra x.s.reads.length x.rc, .slice x.sa x.s.spans.length x.sc, .slice x.wa x.s.writes.length x.wc] 26 (0, 0))) := hY ▸ set_block (i := 2) HX0.out _
     have HE : Hid (max (c + 1 + x.s.snap) 0 = adjI c x.s.snap) := by show _ = _; unfold adjI; rw [if_pos ⟨h1, h2⟩]
     have HY := Lib.hid hY
     clear hY
     go_upto_region 3 with fail
     rw [← HY.out]
     clear HY c0 c1 c2 c3 c4 c5 r0 r1 r2 r3 r4 r5 q0 q1 q2 q3 q4 q5 f2
     obtain ⟨SN, hSN⟩ : ∃ SN, SN = max (c + 1 + x.s.snap) 0 := ⟨_, rfl⟩
     rw [← hSN] at HY0 HE
     clear hSN
     obtain ⟨c0, c1, c2, c3, c4, c5⟩ := six_cells HY0.out
     obtain ⟨r0, r1, r2, r3, r4, r5⟩ := six_frz HY1.out
     obtain ⟨q0, q1, q2, q3, q4, q5⟩ := six_cells HY1.out
     go_wp2_with fail
     have hk := back_end (x := x) (c := c) HBY.out HE.out HY1.out rfl
     refine bodyPost_ret ?_ ?_ hk.2
     · exact results_cell Tryz.results16 rfl (load_sub hk.1)
     · rfl
   · have HE : Hid (x.s.snap = adjI c x.s.snap) := by show _ = _; unfold adjI; rw [if_neg (by omega)]
     go_wp2_with fail
     have hk := back_end (x := x) (c := c) HB.out HE.out HX1.out rfl
     refine bodyPost_ret ?_ ?_ hk.2
     · exact results_cell Tryz.results16 rfl (load_sub hk.1)
     · rfl
 · have HE : Hid (x.s.snap = adjI c x.s.snap) := by show _ = _; unfold adjI; rw [if_neg (by omega)]
   go_wp2_with fail
   have hk := back_end (x := x) (c := c) HB.out HE.out HX1.out rfl
   refine bodyPost_ret ?_ ?_ hk.2
   · exact results_cell Tryz.results16 rfl (load_sub hk.1)
   · rfl
end Go.Proofs.YtpknmfmpiachkaaGreat
namespace Go.Proofs.YtpknmfmpiachkaaGreat
open Go.RowKit Go.Maps
def sndS : SubP := ⟨1, 1, 0, [], [], [one64]⟩
theorem sndS_check : checkP sndS = 0 := by
 have h1 : numP 1 1 = true := by decide
 have hy := one_ok
 unfold sndS checkP numbersP manyP orderP
 simp only [h1, sortF_one one64 hy.1, sortF_nil, normS_nil, hy.2.2, List.any_cons, List.any_nil, hy.2.1]
 simp [numP, eqL, eqW]
theorem sndS_refuse : refuseP (newP 2 2) sndS = 0 := by
 unfold refuseP
 rw [sndS_check]
 decide
theorem sndS_words : sndS.Words := ⟨fun z hz => absurd hz List.not_mem_nil, fun z hz => absurd hz List.not_mem_nil, fun z hz => by rw [List.mem_singleton.1 hz]; exact one_ok.1⟩
theorem sndS_right (d : DoneV) (hn : d.num = 1) (hs : d.m.s = sndS) : rightP [d] = true := by
 unfold rightP rightL rightL badAt
 rw [hs, sndS_check, hn]
 rfl
def sndM (H : Nat) : SubM := ⟨sndS, none, 0, none, 0, some ⟨H, 0, none⟩, 1⟩
theorem sndM_ok {Y : World} {H : Nat} (h1 : Y.heap[H]? = some (.cells #[.float .f64 one64] 63 (0, 0))) : (sndM H).ok Y :=
 ⟨sndS_words, RowN.nil _ _ _, RowN.nil _ _ _, RowN.of_block h1 rfl rfl, by simp [sndM, sndS], by simp [sndM, sndS], by simp [sndM, sndS]⟩
set_option maxRecDepth 100000 in
set_option maxHeartbeats 6400000 in
theorem soundMachine_any (w : World) : Calls Tryz.prog 14 #[] w (RetBox w (.bool true)) := by
 have HNEW := Lib.hid (machNew_any (fun _ => 0) 2 2 w)
 go_enter Tryz.func14, Tryz.ntmps14
 go_wp2_with fail
 refine HNEW.out.mono ?_
 rintro e w1 ⟨A, C, T, M, κ1, rfl, hA, hb1, hκ1, hM1⟩
 clear HNEW
 obtain ⟨H, hH⟩ : ∃ H, H = w1.heap.size := ⟨_, rfl⟩
 obtain ⟨Y, hY⟩ : ∃ Y, Y = (w1.alloc (.cells #[.float .f64 4607182418800017408] 63)).alloc (.cells #[.int .i64 1, .int .i64 1, .int .i64 0, .slice none 0 0, .slice none 0 0, .slice (some ⟨H, 0, none⟩) 1 1] 26) := ⟨_, rfl⟩
 have hbY : Below w1.heap.size w1 Y := hY ▸ below_alloc (below_alloc (Below.refl _ _) _) _
 have hY0 : Y.heap[H]? = some (.cells #[.float .f64 one64] 63 (0, 0)) := by rw [hY, hH]; exact alloc_keep (heap_alloc_new w1 _) _
 have HYS : Hid (Y.heap[H + 1]? = some (.cells #[.int .i64 1, .int .i64 1, .int .i64 0, .slice none 0 0, .slice none 0 0, .slice (some ⟨H, 0, none⟩) 1 1] 26 (0, 0))) := by show _ = _; rw [hY, hH]; exact alloc_new1 _ _ _
 obtain ⟨c0, c1, c2, c3, c4, c5⟩ := six_cells HYS.out
 obtain ⟨N, hN⟩ : ∃ N, N = (subBytes sndS).length := ⟨_, rfl⟩
 have HEN := Lib.hid (encode_ok (sndM H) Y (sndM_ok hY0) sndS_check N hN)
 have hcY := chg_tint (κ := κ1) (i := 0) hbY
 have HMY := Lib.hid (hM1.chg hcY (fun _ h => h.elim))
 have HBY := Lib.hid (below_then hb1 hbY)
 have HOLD : Hid (∀ g, g < w.heap.size → tint w1 κ1 0 g = 0) := fun g hg => (tint_old (Nat.lt_of_lt_of_le hg hb1.size)).trans (hκ1 g hg)
 have HCB : Hid (tint w1 κ1 0 (H + 1) = 0 ∧ tint w1 κ1 0 H = 0) := ⟨tint_new (by omega), tint_new (by omega)⟩
 have HY0 := Lib.hid hY0
 have HY := Lib.hid hY
 have HH := Lib.hid hH
 obtain ⟨κ2, hκ2⟩ : ∃ κ2, κ2 = tint w1 κ1 0 := ⟨_, rfl⟩
 rw [← hκ2] at HMY HOLD HCB
 clear hA hb1 hκ1 hM1 hbY hcY hY0 hY hH hN hκ2
 go_upto_region 3 with fail
 rw [← HH.out, ← HY.out]
 clear HY HH
 go_wp2_with fail
 refine HEN.out.mono ?_
 rintro e w2 ⟨ao, cap, rfl, hown, hb2⟩
 have hc2 : Chg (fun _ => False) κ2 κ2 Y w2 := Chg.of_below hb2
 have HAP := Lib.hid (apply_any κ2 A C T 0 1 rfl (by omega) (newP 2 2) (newP_ok 2 2) 0 M (by omega) (.map []) (fun _ => none) sndS (check_right sndS_words sndS_check) sndS_check ⟨by decide, by decide⟩ ao N cap w2 (HMY.out.chg hc2 (fun _ h => h.elim)) hown.slice.1 hown.slice.2.1 hown.slice.2.2.1 hown.slice.2.2.2)
 have HB2 := Lib.hid (below_then HBY.out hb2)
 have HS2 : Hid (w2.heap[H + 1]? = some (.cells #[.int .i64 1, .int .i64 1, .int .i64 0, .slice none 0 0, .slice none 0 0, .slice (some ⟨H, 0, none⟩) 1 1] 26 (0, 0))) := (hb2.block _ (lt_of_block HYS.out)).trans HYS.out
 have HW2 : Hid (w2.heap[H]? = some (.cells #[.float .f64 one64] 63 (0, 0))) := (hb2.block _ (lt_of_block HY0.out)).trans HY0.out
 clear hown hb2 hc2 HEN HMY HBY HYS HY0 c0 c1 c2 c3 c4 c5
 go_wp2_with fail
 refine HAP.out.mono ?_
 rintro e w3 ⟨κ3, c', se, sq, code, num, fresh, M', D', f', rfl, hc3, _, hfr, hfree, _⟩
 obtain rfl : fresh = true := hfree (by show (0 : Nat) ≠ 16; decide)
 obtain ⟨hst, _, _⟩ : Step (newP 2 2) sndS code num c' ∧ _ ∧ _ := by
  rcases hfr with ⟨h, _⟩ | ⟨_, h⟩
  · cases h
  · exact h
 obtain ⟨rfl, rfl⟩ : code = 0 ∧ num = 1 := by
  obtain ⟨h1, h2⟩ := hst
  have h0 : code = 0 := h1.trans sndS_refuse
  rcases h2 with ⟨h3, _⟩ | ⟨_, h4, _⟩
  · exact absurd h0 h3
  · exact ⟨h0, h4⟩
 have hJ0 : ¬ JM 0 := by unfold JM; omega
 have hb3 : Below w.heap.size w w3 := hc3.below HB2.out fun g hg => by rw [HOLD.out g hg]; exact hJ0
 have hS3 := (hc3.block _ (lt_of_block HS2.out) (by rw [HCB.out.1]; exact hJ0)).trans HS2.out
 have hW3 := (hc3.block _ (lt_of_block HW2.out) (by rw [HCB.out.2]; exact hJ0)).trans HW2.out
 obtain ⟨B, hB⟩ : ∃ B, B = w3.heap.size := ⟨_, rfl⟩
 obtain ⟨Z, hZ⟩ : ∃ Z, Z = w3.alloc (.cells #[.int .i64 se, .int .i64 sq, .int .i64 0, .int .i64 1, .bool true] 57) := ⟨_, rfl⟩
 have hZB : Z.heap[B]? = some (.cells #[.int .i64 se, .int .i64 sq, .int .i64 0, .int .i64 1, .bool true] 57 (0, 0)) := by rw [hZ, hB]; exact heap_alloc_new w3 _
 have hbZ : Below w.heap.size w Z := hZ ▸ below_alloc hb3 _
 have hSZ := hZ ▸ alloc_keep hS3 (.cells #[.int .i64 se, .int .i64 sq, .int .i64 0, .int .i64 1, .bool true] 57)
 have hWZ : Z.heap[H]? = some (.cells #[.float .f64 one64] 63 (0, 0)) := hZ ▸ alloc_keep hW3 _
 obtain ⟨D, hD⟩ : ∃ D, D = Z.heap.size := ⟨_, rfl⟩
 obtain ⟨U, hU⟩ : ∃ U, U = Z.alloc (.cells #[.int .i64 1, .int .i64 1, .int .i64 1, .int .i64 0, .slice none 0 0, .slice none 0 0, .slice (some ⟨H, 0, none⟩) 1 1] 40) := ⟨_, rfl⟩
 have hUD : U.heap[D]? = some (.cells #[.int .i64 1, .int .i64 1, .int .i64 1, .int .i64 0, .slice none 0 0, .slice none 0 0, .slice (some ⟨H, 0, none⟩) 1 1] 40 (0, 0)) := by rw [hU, hD]; exact heap_alloc_new Z _
 have HUB : Hid (U.heap[B]? = some (.cells #[.int .i64 se, .int .i64 sq, .int .i64 0, .int .i64 1, .bool true] 57 (0, 0))) := hU ▸ alloc_keep hZB _
 have hhist : HistAt U (some ⟨D, 0, none⟩) 1 1 [⟨1, sndM H⟩] := by
  refine ⟨rfl, RowN.of_block hUD rfl rfl, fun d hd => ?_, Nat.le_refl _, by decide⟩
  rw [List.mem_singleton.1 hd]
  exact sndM_ok (hU ▸ alloc_keep hWZ _)
 have HO := Lib.hid (order_any (some ⟨D, 0, none⟩) 1 1 [⟨1, sndM H⟩] U hhist)
 have HBU := Lib.hid (show Below w.heap.size w U from hU ▸ below_alloc hbZ _)
 have HDR := Lib.hid (sndS_right ⟨1, sndM H⟩ rfl rfl)
 obtain ⟨c0, c1, c2, c3, c4, c5⟩ := six_cells (show Z.heap[H + 1]? = some (.cells #[.int .i64 1, .int .i64 1, .int .i64 0, .slice none 0 0, .slice none 0 0, .slice (some ⟨H, 0, none⟩) 1 1] 26 (0, 0)) from hZ ▸ alloc_keep hS3 _)
 have HZ := Lib.hid hZ
 have HU := Lib.hid hU
 have HBE := Lib.hid hB
 have HDE := Lib.hid hD
 clear hst hfr hfree hc3 hJ0 hb3 hS3 hW3 hB hZ hZB hbZ hSZ hWZ hD hU hUD hhist HAP HB2 HS2 HW2
 go_upto_region 7 with fail
 rw [← HBE.out, ← HZ.out]
 clear HBE HZ
 go_wp2_with fail
 rw [← HDE.out, ← HU.out]
 clear HDE HU
 refine HO.out.mono ?_
 rintro e w4 ⟨o, ⟨oa, on, oc⟩, ok, rfl, hol, _, _, _, hb4, hcas⟩
 dsimp only [RowV.val]
 obtain ⟨rfl, hto⟩ : ok = true ∧ o.length = 1 := by
  rcases hcas with ⟨h, _, h2⟩ | ⟨_, _, h | ⟨order, left, hne, htop⟩⟩
  · have hp := h2.perm
    rw [List.append_nil] at hp
    exact ⟨h, hp.length_eq⟩
  · rw [HDR.out] at h; cases h
  · exact absurd (sndC_left htop) hne
 simp only at hol
 obtain rfl : on = 1 := hol.symm.trans hto
 obtain ⟨⟨_, _, a2, a3, a4⟩, _⟩ := five_facts ((hb4.block _ (lt_of_block HUB.out)).trans HUB.out)
 have HB4 := Lib.hid (below_then HBU.out hb4)
 clear hcas hb4 HUB hol hto
 go_wp2_with fail
 go_ret
 exact ⟨rfl, HB4.out⟩
end Go.Proofs.YtpknmfmpiachkaaGreat
namespace Go.Proofs.YtpknmfmpiachkaaGreat
open Go.RowKit Go.Maps
theorem info_subm : (Tryz.prog.info? 26).map (fun i => (i.zero, i.size, i.bytes)) = some (some (.agg #[.int .i64 0, .int .i64 0, .int .i64 0, .slice none 0 0, .slice none 0 0, .slice none 0 0]), 6, 96) := by kernel_rfl
theorem info_bsm : (Tryz.prog.info? 53).map (fun i => (i.zero, i.size, i.bytes)) = some (some (.slice none 0 0), 1, 24) := by kernel_rfl
theorem info_intm : (Tryz.prog.info? 3).map (fun i => (i.zero, i.size, i.bytes)) = some (some (.int .i64 0), 1, 8) := by kernel_rfl
theorem wpList_appendG {w : World} {ops : Array Oper} {rest : List Oper} {o : Oper} {a : Act} {Q : Exit → Act → World → Prop} (hgd : o.guard = none) (s x : Operand) (t e : TypeId) {z : Value} {size bytes : Nat}
 (hinfo : (Tryz.prog.info? e).map (fun i => (i.zero, i.size, i.bytes)) = some (some z, size, bytes)) (ht : Tryz.prog.underlying t = some (.slice e)) (hzs : z.cells.size = size) (hsz : 0 < size) (hby : bytes ≤ 128)
 (ho : o.op = .call { callee := .builtin .append, args := #[s, x], argTypes := #[t, t] })
 (base : Nat) (ao : Option Addr) (n cap : Nat) (vs : List Value) (hs : a.eval s = .slice ao n cap) (hown : w.ownsRow base e size (.slice ao n cap) n vs)
 (ax : Option Addr) (m c : Nat) (xs : List Value) (hx : a.eval x = .slice ax m c) (hrow : RowN w ax size m xs) (hnil : ax = none → c = 0) (h1 : ∀ u ∈ xs, u.oneCell' = true) (hbig : n + m ≤ 100000) (hbase : base ≤ w.heap.size) (N : Nat) (hN : n + m = N)
 (h : ∀ ao' cap' w', w'.ownsRow base e size (.slice ao' N cap') N (vs ++ xs) → w.grownBy w' (Value.ownBlock (.slice ao n cap)) →
  (Value.ownBlock (.slice ao' N cap') = Value.ownBlock (.slice ao n cap) ∨ Value.ownBlock (.slice ao' N cap') = some w.heap.size) → wpList Tryz.prog ops Q rest (a.put o.dst (.slice ao' N cap')) w') : wpList Tryz.prog ops Q (o :: rest) a w := by
 obtain ⟨i0, hi, hz0, hz1, hz2⟩ := info_parts hinfo
 have hb : (n + m) * bytes ≤ 100000 * 128 := Nat.mul_le_mul hbig hby
 exact wpList_append_row hgd s x _ ho base e i0 _ size bytes ht hi hz0 hz1 hz2 hzs hsz ao n cap vs hs hown ax m c xs hx hrow.1 hrow.news hnil h1 (by simp only [maxLen]; omega) (by omega) hbase N hN h
theorem and_range (x m : Int) (hm : 0 ≤ m ∧ m ≤ 1023) : 0 ≤ bits .and .i64 x m ∧ bits .and .i64 x m ≤ m := by
 have e : bits .and .i64 x m = IntKind.i64.wrap ((BitVec.ofInt 64 x &&& BitVec.ofInt 64 m).toNat : Int) := rfl
 have h1 : (BitVec.ofInt 64 m).toNat = m.toNat := by rw [BitVec.toNat_ofInt]; omega
 have h2 := @Nat.and_le_right (BitVec.ofInt 64 x).toNat (BitVec.ofInt 64 m).toNat
 rw [h1] at h2
 rw [e, BitVec.toNat_and, h1, IntKind.wrap_i64]
 omega
def gval (q : Option Addr × Nat × Nat) : Value := .slice q.1 q.2.1 q.2.2
structure GRow (w : World) (κ : Nat → Nat) (wx : World) (ga : Option Addr) (gn gc : Nat) (gs : List (Option Addr × Nat × Nat)) (ss : List SubP) : Prop where
 len : gs.length = gn
 lenS : ss.length = gn
 own : wx.ownsRow w.heap.size 53 1 (.slice ga gn gc) gn (gs.map gval)
 col : ∀ g, (Value.slice ga gn gc).ownBlock = some g → κ g = 31
 bytes : ∀ (k : Nat) q s, gs[k]? = some q → ss[k]? = some s → wx.ownsRow w.heap.size 5 1 (gval q) q.2.1 (cells8 (subBytes s))
 colB : ∀ q ∈ gs, ∀ g, (gval q).ownBlock = some g → κ g = 32
structure KRow (w : World) (κ : Nat → Nat) (wx : World) (ka : Option Addr) (kn kc : Nat) (kept : List SubM) : Prop where
 len : kept.length = kn
 own : wx.ownsRow w.heap.size 26 6 (.slice ka kn kc) kn (kept.flatMap SubM.row)
 col : ∀ g, (Value.slice ka kn kc).ownBlock = some g → κ g = 33
structure ARow (w : World) (κ : Nat → Nat) (wx : World) (aa : Option Addr) (an ac : Nat) (xs : List Nat) : Prop where
 len : xs.length = an
 own : wx.ownsRow w.heap.size 3 1 (.slice aa an ac) an (xs.map fun x => .int .i64 (x : Nat))
 col : ∀ g, (Value.slice aa an ac).ownBlock = some g → κ g = 2
section
variable {w wx w1 : World} {κ κ' : Nat → Nat}
theorem GRow.chg {ga : Option Addr} {gn gc : Nat} {gs : List (Option Addr × Nat × Nat)} {ss : List SubP} (h : GRow w κ wx ga gn gc gs ss) {J : Nat → Prop} (hc : Chg J κ κ' wx w1) (h1 : ¬ J 31) (h2 : ¬ J 32) : GRow w κ' w1 ga gn gc gs ss :=
 have hB : ∀ (k : Nat) q s, gs[k]? = some q → ss[k]? = some s → ∀ g, (gval q).ownBlock = some g → g < wx.heap.size := fun k q s hq hs g hg => ((h.bytes k q s hq hs).lt g hg).2
 have hBm : ∀ q ∈ gs, ∀ g, (gval q).ownBlock = some g → g < wx.heap.size := fun q hq g hg => by
  obtain ⟨k, hk⟩ := List.mem_iff_getElem?.1 hq
  have hl := (List.getElem?_eq_some_iff.1 hk).1
  obtain ⟨s, hs⟩ : ∃ s, ss[k]? = some s := ⟨_, List.getElem?_eq_getElem (by rw [h.lenS, ← h.len]; exact hl)⟩
  exact hB k q s hk hs g hg
 ⟨h.len, h.lenS, own_keep h.own fun g hg hl => hc.block g hl (by rw [h.col g hg]; exact h1), fun g hg => (hc.paint g (h.own.lt g hg).2).trans (h.col g hg),
  fun k q s hq hs => own_keep (h.bytes k q s hq hs) fun g hg hl => hc.block g hl (by rw [h.colB q (List.mem_of_getElem? hq) g hg]; exact h2), fun q hq g hg => (hc.paint g (hBm q hq g hg)).trans (h.colB q hq g hg)⟩
theorem KRow.chg {ka : Option Addr} {kn kc : Nat} {kept : List SubM} (h : KRow w κ wx ka kn kc kept) {J : Nat → Prop} (hc : Chg J κ κ' wx w1) (h1 : ¬ J 33) : KRow w κ' w1 ka kn kc kept :=
 ⟨h.len, own_keep h.own fun g hg hl => hc.block g hl (by rw [h.col g hg]; exact h1), fun g hg => (hc.paint g (h.own.lt g hg).2).trans (h.col g hg)⟩
theorem ARow.chg {aa : Option Addr} {an ac : Nat} {xs : List Nat} (h : ARow w κ wx aa an ac xs) {J : Nat → Prop} (hc : Chg J κ κ' wx w1) (h1 : ¬ J 2) : ARow w κ' w1 aa an ac xs :=
 ⟨h.len, own_keep h.own fun g hg hl => hc.block g hl (by rw [h.col g hg]; exact h1), fun g hg => (hc.paint g (h.own.lt g hg).2).trans (h.col g hg)⟩
theorem chg_push {i : Nat} {e : TypeId} {size n n' cap cap' : Nat} {a a' : Option Addr} {xs : List Value} (hown : wx.ownsRow w.heap.size e size (.slice a n cap) n xs) (hcol : ∀ g, (Value.slice a n cap).ownBlock = some g → κ g = i) (hg : wx.grownBy w1 (Value.slice a n cap).ownBlock) (ha : (Value.slice a' n' cap').ownBlock = (Value.slice a n cap).ownBlock ∨ (Value.slice a' n' cap').ownBlock = some wx.heap.size) :
 Chg (· = i) κ (tint wx κ i) wx w1 ∧ ∀ g, (Value.slice a' n' cap').ownBlock = some g → tint wx κ i g = i :=
 ⟨⟨hg.os, hg.tape, hg.output, hg.size, fun g hgl => tint_old hgl, fun g hgl hn => hg.block g hgl fun e => hn (hcol g e.symm)⟩, fun g hgo => by
   rcases ha with h' | h'
   · rw [h'] at hgo
     rw [tint_old (hown.lt g hgo).2]
     exact hcol g hgo
   · rw [h'] at hgo
     have := Option.some.inj hgo
     exact tint_new (by omega)⟩
theorem GRow.push {ga ga' : Option Addr} {gn gc gc' : Nat} {gs : List (Option Addr × Nat × Nat)} {ss : List SubP} (h : GRow w κ wx ga gn gc gs ss) {q : Option Addr × Nat × Nat} {s : SubP} (hb : wx.ownsRow w.heap.size 5 1 (gval q) q.2.1 (cells8 (subBytes s))) (hcb : ∀ g, (gval q).ownBlock = some g → κ g = 32)
 (ho : w1.ownsRow w.heap.size 53 1 (.slice ga' (gn + 1) gc') (gn + 1) (gs.map gval ++ [gval q])) (hg : wx.grownBy w1 (Value.slice ga gn gc).ownBlock) (ha : (Value.slice ga' (gn + 1) gc').ownBlock = (Value.slice ga gn gc).ownBlock ∨ (Value.slice ga' (gn + 1) gc').ownBlock = some wx.heap.size) :
 Chg (· = 31) κ (tint wx κ 31) wx w1 ∧ GRow w (tint wx κ 31) w1 ga' (gn + 1) gc' (gs ++ [q]) (ss ++ [s]) := by
 obtain ⟨hc, hcol⟩ := chg_push h.own h.col hg ha
 have hkb : ∀ (q : Option Addr × Nat × Nat) (bs : List Value), wx.ownsRow w.heap.size 5 1 (gval q) q.2.1 bs → (∀ g, (gval q).ownBlock = some g → κ g = 32) → w1.ownsRow w.heap.size 5 1 (gval q) q.2.1 bs := fun q bs h1 h2 => own_keep h1 fun g hg hl => hc.block g hl (by rw [h2 g hg]; omega)
 refine ⟨hc, by rw [List.length_append, h.len]; rfl, by rw [List.length_append, h.lenS]; rfl, by rw [List.map_append]; exact ho, hcol, fun k p s' hp hs' => ?_, fun p hp g hg => ?_⟩
 · by_cases hk : k < gn
   · rw [List.getElem?_append_left (by rw [h.len]; exact hk)] at hp
     rw [List.getElem?_append_left (by rw [h.lenS]; exact hk)] at hs'
     exact hkb p _ (h.bytes k p s' hp hs') (h.colB p (List.mem_of_getElem? hp))
   · have hkl := (List.getElem?_eq_some_iff.1 hp).1
     rw [List.length_append, h.len, List.length_singleton] at hkl
     obtain rfl : k = gn := by omega
     rw [List.getElem?_append_right (by rw [h.len]; exact Nat.le_refl _), h.len, Nat.sub_self] at hp
     rw [List.getElem?_append_right (by rw [h.lenS]; exact Nat.le_refl _), h.lenS, Nat.sub_self] at hs'
     obtain rfl : q = p := Option.some.inj hp
     obtain rfl : s = s' := Option.some.inj hs'
     exact hkb q _ hb hcb
 · rcases List.mem_append.1 hp with hp | hp
   · obtain ⟨k, hk⟩ := List.mem_iff_getElem?.1 hp
     have hl := (List.getElem?_eq_some_iff.1 hk).1
     obtain ⟨s', hs'⟩ : ∃ s', ss[k]? = some s' := ⟨_, List.getElem?_eq_getElem (by rw [h.lenS, ← h.len]; exact hl)⟩
     rw [tint_old ((h.bytes k p s' hk hs').lt g hg).2]
     exact h.colB p hp g hg
   · rw [List.mem_singleton.1 hp] at hg
     rw [tint_old (hb.lt g hg).2]
     exact hcb g hg
theorem KRow.push {ka ka' : Option Addr} {kn kc kc' : Nat} {kept : List SubM} {m : SubM} (h : KRow w κ wx ka kn kc kept)
 (ho : w1.ownsRow w.heap.size 26 6 (.slice ka' (kn + 1) kc') (kn + 1) (kept.flatMap SubM.row ++ m.row)) (hg : wx.grownBy w1 (Value.slice ka kn kc).ownBlock) (ha : (Value.slice ka' (kn + 1) kc').ownBlock = (Value.slice ka kn kc).ownBlock ∨ (Value.slice ka' (kn + 1) kc').ownBlock = some wx.heap.size) :
 Chg (· = 33) κ (tint wx κ 33) wx w1 ∧ KRow w (tint wx κ 33) w1 ka' (kn + 1) kc' (kept ++ [m]) := by
 obtain ⟨hc, hcol⟩ := chg_push h.own h.col hg ha
 exact ⟨hc, by rw [List.length_append, h.len]; rfl, by rw [List.flatMap_append, List.flatMap_cons, List.flatMap_nil, List.append_nil]; exact ho, hcol⟩
theorem ARow.push {aa aa' : Option Addr} {an ac ac' : Nat} {xs : List Nat} {x : Nat} (h : ARow w κ wx aa an ac xs)
 (ho : w1.ownsRow w.heap.size 3 1 (.slice aa' (an + 1) ac') (an + 1) ((xs.map fun x => .int .i64 (x : Nat)) ++ [.int .i64 (x : Nat)])) (hg : wx.grownBy w1 (Value.slice aa an ac).ownBlock) (ha : (Value.slice aa' (an + 1) ac').ownBlock = (Value.slice aa an ac).ownBlock ∨ (Value.slice aa' (an + 1) ac').ownBlock = some wx.heap.size) :
 Chg (· = 2) κ (tint wx κ 2) wx w1 ∧ ARow w (tint wx κ 2) w1 aa' (an + 1) ac' (xs ++ [x]) := by
 obtain ⟨hc, hcol⟩ := chg_push h.own h.col hg ha
 exact ⟨hc, by rw [List.length_append, h.len]; rfl, by rw [List.map_append]; exact ho, hcol⟩
end
structure Mem (w : World) (κ : Nat → Nat) (A C T : Nat) (wx : World) (cnt : Nat) (c : CertV) (M : Nat) (D : DataW Unit) (f : Int → Option (Nat × SV)) (ha : Option Addr) (hn hc : Nat) (hs : List DoneV)
 (ga : Option Addr) (gn gc : Nat) (gs : List (Option Addr × Nat × Nat)) (ss : List SubP) (ka : Option Addr) (kn kc : Nat) (kept : List SubM) : Prop where
 mach : MachAt wx κ A C T (cnt : Nat) c cnt M D f
 row : HRow w κ 30 wx ha hn hc hs
 g : GRow w κ wx ga gn gc gs ss
 k : KRow w κ wx ka kn kc kept
 below : Below w.heap.size w wx
 old : ∀ g, g < w.heap.size → κ g = 0
section
variable {w wx w1 : World} {κ κ' : Nat → Nat} {A C T cnt : Nat} {c : CertV} {M : Nat} {D : DataW Unit} {f : Int → Option (Nat × SV)} {ha : Option Addr} {hn hc : Nat} {hs : List DoneV} {ga : Option Addr} {gn gc : Nat} {gs : List (Option Addr × Nat × Nat)} {ss : List SubP} {ka : Option Addr} {kn kc : Nat} {kept : List SubM}
theorem Mem.move {cnt' : Nat} {c' : CertV} {M' : Nat} {D' : DataW Unit} {f' : Int → Option (Nat × SV)} (h : Mem w κ A C T wx cnt c M D f ha hn hc hs ga gn gc gs ss ka kn kc kept) {J : Nat → Prop} (hch : Chg J κ κ' wx w1) (hj : ∀ i, J i → i ≠ 0 ∧ (i < 30 ∨ 33 < i)) (hm : MachAt w1 κ' A C T (cnt' : Nat) c' cnt' M' D' f') : Mem w κ' A C T w1 cnt' c' M' D' f' ha hn hc hs ga gn gc gs ss ka kn kc kept :=
 ⟨hm, h.row.chg hch (fun h => by have := hj _ h; omega), h.g.chg hch (fun h => by have := hj _ h; omega) (fun h => by have := hj _ h; omega), h.k.chg hch (fun h => by have := hj _ h; omega), hch.below h.below fun g hg => by rw [h.old g hg]; exact fun h => (hj _ h).1 rfl, fun g hg => (hch.paint g (Nat.lt_of_lt_of_le hg h.below.size)).trans (h.old g hg)⟩
theorem Mem.chg (h : Mem w κ A C T wx cnt c M D f ha hn hc hs ga gn gc gs ss ka kn kc kept) {J : Nat → Prop} (hch : Chg J κ κ' wx w1) (hj : ∀ i, J i → i = 1 ∨ i = 2) : Mem w κ' A C T w1 cnt c M D f ha hn hc hs ga gn gc gs ss ka kn kc kept :=
 h.move hch (fun i hi => by have := hj i hi; omega) (h.mach.chg hch fun i hi => by have := hj i hi; unfold JM; omega)
theorem Mem.sub (h : Mem w κ A C T wx cnt c M D f ha hn hc hs ga gn gc gs ss ka kn kc kept) (hb : Below wx.heap.size wx w1) : Mem w κ A C T w1 cnt c M D f ha hn hc hs ga gn gc gs ss ka kn kc kept :=
 h.chg (Chg.of_below (J := fun _ => False) hb) fun _ h => h.elim
theorem Mem.pushH {ha' : Option Addr} {hc' : Nat} {d : DoneV} (h : Mem w κ A C T wx cnt c M D f ha hn hc hs ga gn gc gs ss ka kn kc kept)
 (ho : w1.ownsRow w.heap.size 40 7 (.slice ha' (hn + 1) hc') (hn + 1) (hs.flatMap DoneV.cells ++ d.cells)) (hg : wx.grownBy w1 (Value.slice ha hn hc).ownBlock) (hat : (Value.slice ha' (hn + 1) hc').ownBlock = (Value.slice ha hn hc).ownBlock ∨ (Value.slice ha' (hn + 1) hc').ownBlock = some wx.heap.size) :
 ∃ κ', Chg (· = 30) κ κ' wx w1 ∧ Mem w κ' A C T w1 cnt c M D f ha' (hn + 1) hc' (hs ++ [d]) ga gn gc gs ss ka kn kc kept := by
 obtain ⟨hch, hr⟩ := h.row.push ho hg (hat.imp (fun h => h) fun h => ⟨_, h, Nat.le_refl _⟩)
 exact ⟨_, hch, h.mach.chg hch (fun i hi => by unfold JM; omega), hr, h.g.chg hch (by omega) (by omega), h.k.chg hch (by omega), hch.below h.below fun g hg => by rw [h.old g hg]; omega, fun g hg => (hch.paint g (Nat.lt_of_lt_of_le hg h.below.size)).trans (h.old g hg)⟩
theorem Mem.pushG {ga' : Option Addr} {gc' : Nat} {q : Option Addr × Nat × Nat} {s : SubP} (h : Mem w κ A C T wx cnt c M D f ha hn hc hs ga gn gc gs ss ka kn kc kept) (hb : wx.ownsRow w.heap.size 5 1 (gval q) q.2.1 (cells8 (subBytes s))) (hcb : ∀ g, (gval q).ownBlock = some g → κ g = 32)
 (ho : w1.ownsRow w.heap.size 53 1 (.slice ga' (gn + 1) gc') (gn + 1) (gs.map gval ++ [gval q])) (hg : wx.grownBy w1 (Value.slice ga gn gc).ownBlock) (hat : (Value.slice ga' (gn + 1) gc').ownBlock = (Value.slice ga gn gc).ownBlock ∨ (Value.slice ga' (gn + 1) gc').ownBlock = some wx.heap.size) :
 ∃ κ', Chg (· = 31) κ κ' wx w1 ∧ Mem w κ' A C T w1 cnt c M D f ha hn hc hs ga' (gn + 1) gc' (gs ++ [q]) (ss ++ [s]) ka kn kc kept := by
 obtain ⟨hch, hr⟩ := h.g.push hb hcb ho hg hat
 exact ⟨_, hch, h.mach.chg hch (fun i hi => by unfold JM; omega), h.row.chg hch (by omega), hr, h.k.chg hch (by omega), hch.below h.below fun g hg => by rw [h.old g hg]; omega, fun g hg => (hch.paint g (Nat.lt_of_lt_of_le hg h.below.size)).trans (h.old g hg)⟩
theorem Mem.pushK {ka' : Option Addr} {kc' : Nat} {m : SubM} (h : Mem w κ A C T wx cnt c M D f ha hn hc hs ga gn gc gs ss ka kn kc kept)
 (ho : w1.ownsRow w.heap.size 26 6 (.slice ka' (kn + 1) kc') (kn + 1) (kept.flatMap SubM.row ++ m.row)) (hg : wx.grownBy w1 (Value.slice ka kn kc).ownBlock) (hat : (Value.slice ka' (kn + 1) kc').ownBlock = (Value.slice ka kn kc).ownBlock ∨ (Value.slice ka' (kn + 1) kc').ownBlock = some wx.heap.size) :
 ∃ κ', Chg (· = 33) κ κ' wx w1 ∧ Mem w κ' A C T w1 cnt c M D f ha hn hc hs ga gn gc gs ss ka' (kn + 1) kc' (kept ++ [m]) := by
 obtain ⟨hch, hr⟩ := h.k.push ho hg hat
 exact ⟨_, hch, h.mach.chg hch (fun i hi => by unfold JM; omega), h.row.chg hch (by omega), h.g.chg hch (by omega) (by omega), hr, hch.below h.below fun g hg => by rw [h.old g hg]; omega, fun g hg => (hch.paint g (Nat.lt_of_lt_of_le hg h.below.size)).trans (h.old g hg)⟩
end
structure Pl (w : World) (c G : CertV) (f : Int → Option (Nat × SV)) (hs : List DoneV) (kept : List SubM) (i : Nat) : Prop where
 sim : Sim0 c G
 good : Good G.recs
 hist : hs = G.recs.map doneG
 com : ∀ r ∈ G.recs, r.m ∈ kept ∧ Blkd (f r.m.s.session) r.m.s.seq
 nodup : G.recs.Pairwise fun a b => a.m.s.seq ≠ b.m.s.seq
 ok : ∀ m ∈ kept, m.ok w
 check : ∀ m ∈ kept, checkP m.s = 0
 sess : ∀ m ∈ kept, 1 ≤ m.s.session ∧ m.s.session ≤ 4
 seqs : ∀ m ∈ kept, 1 ≤ m.s.seq ∧ m.s.seq ≤ (i : Int)
 rise : kept.Pairwise fun a b => a.s.seq < b.s.seq
theorem newSim2 (keep old : Int) : Sim0 (newP keep old) (newP 32 64) := ⟨newP_ok _ _, fun t h => by simp [newP] at h, rfl, rfl, rfl, rfl, rfl, rfl, ⟨[], [], rfl, trivial, fun _ h => absurd h List.not_mem_nil⟩, fun i t h => by simp [newP] at h, rfl⟩
theorem filter_len {α : Type} [DecidableEq α] (a : α) : ∀ l : List α, l.Pairwise (· ≠ ·) → l.length ≤ (l.filter fun x => x != a).length + 1
 | [], _ => by simp
 | x :: r, h => by
   rw [List.pairwise_cons] at h
   have ih := filter_len a r h.2
   by_cases e : x = a
   · subst e
     have : r.filter (fun y => y != x) = r := List.filter_eq_self.2 fun y hy => by have := h.1 y hy; simp [Ne.symm this]
     rw [List.filter_cons_of_neg (by simp), this]
     exact Nat.le_refl _
   · rw [List.filter_cons_of_pos (by simp [e]), List.length_cons, List.length_cons]
     omega
theorem distinct_len : ∀ (n : Nat) (l : List Int), l.Pairwise (· ≠ ·) → (∀ x ∈ l, 1 ≤ x ∧ x ≤ (n : Int)) → l.length ≤ n
 | 0, l, _, h => by
   cases l with
   | nil => exact Nat.le_refl _
   | cons x r => have := h x (List.mem_cons_self ..); omega
 | n + 1, l, hp, h => by
   have h1 := filter_len ((n : Int) + 1) l hp
   have h2 := distinct_len n (l.filter fun x => x != (n : Int) + 1) (hp.sublist List.filter_sublist) fun x hx => by
    obtain ⟨hx1, hx2⟩ := List.mem_filter.1 hx
    have h3 := h x hx1
    have h4 : x ≠ (n : Int) + 1 := by simpa using hx2
    omega
   omega
section
variable {w : World} {c c' G : CertV} {f f' : Int → Option (Nat × SV)} {hs : List DoneV} {kept : List SubM} {i : Nat}
theorem Pl.len (h : Pl w c G f hs kept i) : hs.length ≤ i := by
 rw [h.hist, List.length_map]
 have := distinct_len i (G.recs.map fun r => r.m.s.seq) (List.pairwise_map.2 h.nodup) fun x hx => by
  obtain ⟨r, hr, rfl⟩ := List.mem_map.1 hx
  exact h.seqs r.m (h.com r hr).1
 rwa [List.length_map] at this
theorem Pl.idle (h : Pl w c G f hs kept i) : Pl w c G f hs kept (i + 1) :=
 ⟨h.sim, h.good, h.hist, h.com, h.nodup, h.ok, h.check, h.sess, fun m hm => by have := h.seqs m hm; omega, h.rise⟩
theorem Pl.keep (h : Pl w c G f hs kept i) (m : SubM) (h1 : m.ok w) (h2 : checkP m.s = 0) (h3 : 1 ≤ m.s.session ∧ m.s.session ≤ 4) (h4 : m.s.seq = (i : Int) + 1) : Pl w c G f hs (kept ++ [m]) (i + 1) := by
 have hall : ∀ {p : SubM → Prop}, (∀ x ∈ kept, p x) → p m → ∀ x ∈ kept ++ [m], p x := fun hp hm x hx => by
  rcases List.mem_append.1 hx with hx | hx
  · exact hp x hx
  · rw [List.mem_singleton.1 hx]; exact hm
 refine ⟨h.sim, h.good, h.hist, fun r hr => ⟨List.mem_append_left _ (h.com r hr).1, (h.com r hr).2⟩, h.nodup, hall h.ok h1, hall h.check h2, hall h.sess h3, hall (fun x hx => by have := h.seqs x hx; omega) (by omega), ?_⟩
 rw [List.pairwise_append]
 refine ⟨h.rise, List.pairwise_singleton _ _, fun a ha b hb => ?_⟩
 rw [List.mem_singleton.1 hb]
 have := h.seqs a ha
 omega
theorem Pl.same (h : Pl w c G f hs kept i) (hf : ∀ x q, Blkd (f x) q → Blkd (f' x) q) : Pl w c G f' hs kept i :=
 ⟨h.sim, h.good, h.hist, fun r hr => ⟨(h.com r hr).1, hf _ _ (h.com r hr).2⟩, h.nodup, h.ok, h.check, h.sess, h.seqs, h.rise⟩
theorem rise_eq {kept : List SubM} (h : kept.Pairwise fun a b => a.s.seq < b.s.seq) {a b : SubM} (ha : a ∈ kept) (hb : b ∈ kept) (he : a.s.seq = b.s.seq) : a = b := by
 obtain ⟨i, hi, hia⟩ := List.getElem_of_mem ha
 obtain ⟨j, hj, hjb⟩ := List.getElem_of_mem hb
 rcases Nat.lt_trichotomy i j with hij | rfl | hij
 · have := List.pairwise_iff_getElem.1 h i j hi hj hij
   rw [hia, hjb] at this
   omega
 · rw [← hia, ← hjb]
 · have := List.pairwise_iff_getElem.1 h j i hj hi hij
   rw [hia, hjb] at this
   omega
theorem Pl.commit (h : Pl w c G f hs kept i) {m : SubM} (hm : m ∈ kept) {num : Int} (hst : Step c m.s 0 num c') (hno : ¬ Blkd (f m.s.session) m.s.seq) (hyes : Blkd (f' m.s.session) m.s.seq) (hf : ∀ x q, Blkd (f x) q → Blkd (f' x) q) : ∃ G', Pl w c' G' f' (hs ++ [⟨num, m⟩]) kept i := by
 have hmw := h.ok m hm
 obtain ⟨hnum, hs2⟩ := h.sim.commit hmw.words hst m rfl
 have hgood := h.good.snoc (h.sim.good hmw.words hst.1.symm m rfl)
 refine ⟨_, hs2, hgood, ?_, fun r hr => ?_, ?_, h.ok, h.check, h.sess, h.seqs, h.rise⟩
 · show hs ++ [⟨num, m⟩] = List.map doneG (G.recs ++ [_])
   rw [List.map_append, List.map_cons, List.map_nil, h.hist, hnum]
   rfl
 · rcases List.mem_append.1 hr with hr | hr
   · exact ⟨(h.com r hr).1, hf _ _ (h.com r hr).2⟩
   · rw [List.mem_singleton.1 hr]
     exact ⟨hm, hyes⟩
 · show List.Pairwise _ (G.recs ++ [_])
   rw [List.pairwise_append]
   refine ⟨h.nodup, List.pairwise_singleton _ _, fun a ha b hb he => ?_⟩
   rw [List.mem_singleton.1 hb] at he
   have hab := rise_eq h.rise (h.com a ha).1 hm he
   have := (h.com a ha).2
   rw [hab] at this
   exact hno this
end
end Go.Proofs.YtpknmfmpiachkaaGreat
namespace Go.Proofs.YtpknmfmpiachkaaGreat
open Go.ChangeShapes Go.WideShapes Go.ChangeAt Go.RowKit
set_option maxRecDepth 100000 in
theorem open_intsx {H : Type} {enc : TypeId × Value → H} {W : World} {r : Reach} {b0 : Nat} {v : Value} {d : DataW H} {p : List MemPlace}
 (hv : Value.okWide Tryz.prog W r b0 48 v) (h : DataW.Trod enc Tryz.prog W 0 (fun _ => true) true 48 v d p) :
 ∃ a len cap zs, v = .slice a len cap ∧ RowN W a 1 len (cellsI zs) ∧ len ≤ cap ∧ cap ≤ maxLen ∧ (a = none → cap = 0) := by
 obtain ⟨a, len, cap, rfl⟩ := okWide_slice Tryz.underlying48 hv
 obtain ⟨fuel, hf⟩ := h
 rcases open_ints Tryz.underlying48 Tryz.underlying3 (by kernel_rfl) hf with ⟨hcs, hx⟩ | ⟨x, l, c, zs, hcs, _, hl, hm, hz, hx, hcell, hwz⟩
 · simp [Value.cells] at hcs
   obtain ⟨rfl, rfl, rfl⟩ := hcs
   exact ⟨none, 0, 0, [], rfl, RowN.nil _ _ _, Nat.le_refl _, by simp [maxLen], fun _ => rfl⟩
 · simp [Value.cells] at hcs
   obtain ⟨rfl, rfl, rfl⟩ := hcs
   simp only [if_true] at hz
   have hcl : ∀ l : List Int, (cellsI l).length = l.length := fun l => by simp [cellsI]
   refine ⟨some x, len, cap, zs.take len, rfl, ⟨by rw [hcl, List.length_take]; omega, fun hn => ?_⟩, hl, hm, (fun h => by cases h)⟩
   have h0 := hcell 0 (by omega)
   obtain ⟨b, off, spot⟩ := x
   have hspot : spot = none := by simpa [Addr.add] using World.cell?_spot h0
   subst hspot
   refine ⟨b, off, rfl, fun j u hu => ?_⟩
   have hj : j < len := by
    have := (List.getElem?_eq_some_iff.1 hu).1
    rw [hcl, List.length_take] at this
    omega
   have hi' := hcell j (by omega)
   rw [add_plain] at hi'
   rw [hi']
   simp [cellsI, hj, List.getElem?_eq_getElem (show j < zs.length by omega)] at hu
   rw [List.getD_eq_getElem?_getD, List.getElem?_eq_getElem (show j < zs.length by omega)]
   rw [← hu]
   rfl
end Go.Proofs.YtpknmfmpiachkaaGreat
