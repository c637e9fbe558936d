/- A Snap that counts back; a submission of a row. -/
import Derived.Test.YtpknmfmpiachkaaGreatSnd2
import Derived.Test.YtpknmfmpiachkaaGreatOpen
namespace Go.Proofs.YtpknmfmpiachkaaGreat
open Go.RowKit
def adjI (count snap : Int) : Int := if snap < 0 ∧ -50 < snap then max (count + 1 + snap) 0 else snap
def SubM.snapTo (m : SubM) (sn : Int) : SubM := { m with s := { m.s with snap := sn } }
theorem SubM.ok.snapTo {w : World} {m : SubM} (h : m.ok w) (sn : Int) : (m.snapTo sn).ok w := ⟨⟨h.words.reads, h.words.spans, h.words.writes⟩, h.reads, h.spans, h.writes, h.lr, h.ls, h.lw⟩
theorem dropM (vs : List SubM) : ∀ i, (vs.flatMap SubM.row).drop (i * 6) = (vs.drop i).flatMap SubM.row := by
 induction vs with
 | nil => intro i; simp
 | cons x r ih =>
   intro i
   cases i with
   | zero => simp
   | succ i =>
     rw [List.drop_succ_cons, ← ih i, List.flatMap_cons, show (i + 1) * 6 = 6 + i * 6 by omega, ← List.drop_drop]
     congr 1
theorem sub_at {w : World} {a : Option Addr} {n : Nat} {vs : List SubM} (hr : RowN w a 6 n (vs.flatMap SubM.row)) (hs : vs.length = n) (k : Nat) (hk : k < n) (v : SubM) (he : vs[k]? = some v) :
 ∃ b off, a = some ⟨b, off, none⟩ ∧ w.cell? ⟨b, off + k * 6, none⟩ = some (.int .i64 v.s.session) ∧ w.cell? ⟨b, off + k * 6 + 1, none⟩ = some (.int .i64 v.s.seq) ∧ w.cell? ⟨b, off + k * 6 + 2, none⟩ = some (.int .i64 v.s.snap) ∧ w.cell? ⟨b, off + k * 6 + 3, none⟩ = some (.slice v.ra v.s.reads.length v.rc) ∧ w.cell? ⟨b, off + k * 6 + 4, none⟩ = some (.slice v.sa v.s.spans.length v.sc) ∧ w.cell? ⟨b, off + k * 6 + 5, none⟩ = some (.slice v.wa v.s.writes.length v.wc) := by
 obtain ⟨b, off, ha, hc⟩ := hr.2 (by omega)
 have hcell : ∀ i u, v.row[i]? = some u → w.cell? ⟨b, off + k * 6 + i, none⟩ = some u := fun i u hu => by
  have hi : i < 6 := (List.getElem?_eq_some_iff.1 hu).1
  have : (vs.flatMap SubM.row)[k * 6 + i]? = some u := by
   have h1 : ((vs.flatMap SubM.row).drop (k * 6))[i]? = some u := by
    rw [dropM, List.drop_eq_getElem_cons (show k < vs.length by omega), List.flatMap_cons, List.getElem?_append_left (by simp [SubM.row]; omega)]
    have : vs[k]'(by omega) = v := (List.getElem?_eq_some_iff.1 he).2
    rw [this]
    exact hu
   rwa [List.getElem?_drop] at h1
  rw [Nat.add_assoc]
  exact hc _ _ this
 exact ⟨b, off, ha, hcell 0 _ rfl, hcell 1 _ rfl, hcell 2 _ rfl, hcell 3 _ rfl, hcell 4 _ rfl, hcell 5 _ rfl⟩
theorem grown_drew {w w' : World} {r : Option Nat} (h : w.drew.grownBy w' r) : w.grownBy w' r := ⟨h.os, h.tape, h.output, h.size, h.block⟩
theorem info_done : (Tryz.prog.info? 40).map (fun i => (i.zero, i.size, i.bytes)) = some (some (.agg #[.int .i64 0, .int .i64 0, .int .i64 0, .int .i64 0, .slice none 0 0, .slice none 0 0, .slice none 0 0]), 7, 104) := by kernel_rfl
theorem done_one (d : DoneV) : ∀ u ∈ d.cells, u.oneCell' = true := fun u hu => by
 unfold DoneV.cells at hu
 simp only [List.mem_cons, List.not_mem_nil, or_false] at hu
 rcases hu with rfl | rfl | rfl | rfl | rfl | rfl | rfl <;> rfl
structure HRow (w : World) (κ : Nat → Nat) (i : Nat) (wx : World) (a : Option Addr) (n cap : Nat) (h : List DoneV) : Prop where
 len : h.length = n
 own : wx.ownsRow w.heap.size 40 7 (.slice a n cap) n (h.flatMap DoneV.cells)
 col : ∀ g, (Value.slice a n cap).ownBlock = some g → κ g = i
theorem HRow.chg {w wx w1 : World} {κ κ' : Nat → Nat} {i : Nat} {a : Option Addr} {n cap : Nat} {h : List DoneV} (hh : HRow w κ i wx a n cap h) {J : Nat → Prop} (hc : Chg J κ κ' wx w1) (hj : ¬ J i) : HRow w κ' i w1 a n cap h :=
 ⟨hh.len, own_keep hh.own fun g hg hl => hc.block g hl (by rw [hh.col g hg]; exact hj), fun g hg => (hc.paint g (hh.own.lt g hg).2).trans (hh.col g hg)⟩
theorem HRow.push {w wx w1 : World} {κ : Nat → Nat} {i : Nat} {a a' : Option Addr} {n cap cap' : Nat} {h : List DoneV} {d : DoneV} (hh : HRow w κ i wx a n cap h)
 (ho : w1.ownsRow w.heap.size 40 7 (.slice a' (n + 1) cap') (n + 1) (h.flatMap DoneV.cells ++ d.cells)) (hg : wx.grownBy w1 (Value.slice a n cap).ownBlock) (ha : (Value.slice a' (n + 1) cap').ownBlock = (Value.slice a n cap).ownBlock ∨ ∃ g, (Value.slice a' (n + 1) cap').ownBlock = some g ∧ wx.heap.size ≤ g) :
 Chg (· = i) κ (tint wx κ i) wx w1 ∧ HRow w (tint wx κ i) i w1 a' (n + 1) cap' (h ++ [d]) := by
 refine ⟨⟨hg.os, hg.tape, hg.output, hg.size, fun g hgl => tint_old hgl, fun g hgl hn => hg.block g hgl fun e => hn (hh.col g e.symm)⟩, by rw [List.length_append, hh.len]; rfl, by rw [List.flatMap_append, List.flatMap_cons, List.flatMap_nil, List.append_nil]; exact ho, fun g hgo => ?_⟩
 rcases ha with h' | ⟨g', h', hl⟩
 · rw [h'] at hgo
   rw [tint_old (hh.own.lt g hgo).2]
   exact hh.col g hgo
 · rw [h'] at hgo
   have := Option.some.inj hgo
   exact tint_new (by omega)
theorem HRow.hist {w wx : World} {κ : Nat → Nat} {i : Nat} {a : Option Addr} {n cap : Nat} {h : List DoneV} (hh : HRow w κ i wx a n cap h) (hok : ∀ d ∈ h, d.m.ok w) (hb : Below w.heap.size w wx) : HistAt wx a n cap h := by
 have hcap : n ≤ cap ∧ cap ≤ maxLen := by
  rcases hh.own.2 with ⟨h1, h2⟩ | ⟨g, c, cur, h1, _, _, h3, h4, _⟩
  · injection h1 with _ _ h3
    subst h2 h3
    exact ⟨Nat.le_refl _, by decide⟩
  · injection h1 with _ _ h5
    subst h5
    exact ⟨h3, h4⟩
 exact ⟨hh.len, RowN.of_own hh.own, fun d hd => (hok d hd).below hb, hcap.1, by have := hcap.2; simp only [maxLen] at this; omega⟩
end Go.Proofs.YtpknmfmpiachkaaGreat
