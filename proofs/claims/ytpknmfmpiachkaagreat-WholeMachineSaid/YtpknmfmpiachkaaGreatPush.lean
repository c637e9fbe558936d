/- cert's Decide in plain words. -/
import Derived.Test.YtpknmfmpiachkaaGreatCert7
namespace Go.Proofs.YtpknmfmpiachkaaGreat
open Go.RowKit
def dangerP (l : LookP) : Bool := l.out || (decide (0 < l.least) && decide (0 < l.most) && decide (l.least ≤ l.most))
def refuseP (c : CertV) (s : SubP) : Int :=
 if checkP s ≠ 0 then checkP s else if c.count = 1099511627776 then 3 else if c.count < s.snap then 113 else if s.snap < c.horizon then 110
 else if (besideP c s).written then 111 else if dangerP (besideP c s) then 112 else 0
def moreP (c : CertV) (m : SubM) (out : Bool) : CertV := { c with count := c.count + 1, recs := c.recs ++ [⟨c.count + 1, m, out⟩] }
def lessP (c : CertV) : CertV := if c.keep < c.recs.length then (match c.recs with
 | r :: rest => { sumP c r with recs := rest }
 | [] => c) else c
def commitP (c : CertV) (m : SubM) (out : Bool) : CertV := lessP (moreP c m out)
theorem sumP_keep (c : CertV) (r : RecV) : (sumP c r).keep = c.keep ∧ (sumP c r).raw = c.raw ∧ (sumP c r).old = c.old ∧ (sumP c r).count = c.count ∧ (sumP c r).recs = c.recs := by
 unfold sumP; split <;> exact ⟨rfl, rfl, rfl, rfl, rfl⟩
theorem step1_sorted {old : Nat} {num : Int} {out : Bool} : ∀ (ks : List Nat) (s : List VI × List VI × Bool), (∀ x ∈ ks, KeyOk x) → SortedV s.1 → SortedV s.2.1 → SortedV (ks.foldl (step1 old num out) s).1 ∧ SortedV (ks.foldl (step1 old num out) s).2.1
 | [], _, _, h1, h2 => ⟨h1, h2⟩
 | x :: r, s, hk, h1, h2 => by
   have hx := hk x (List.mem_cons_self ..)
   refine step1_sorted r _ (fun y hy => hk y (List.mem_cons_of_mem _ hy)) (vDone_sorted h1 hx num) ?_
   show SortedV (if out then vDone old s.2.1 x num else s.2.1)
   split
   · exact vDone_sorted h2 hx num
   · exact h2
theorem step2_sorted {old : Nat} {num : Int} : ∀ (ks : List Nat) (s : List VI × Bool), (∀ x ∈ ks, KeyOk x) → SortedV s.1 → SortedV (ks.foldl (step2 old num) s).1
 | [], _, _, h1 => h1
 | x :: r, _, hk, h1 => step2_sorted r _ (fun y hy => hk y (List.mem_cons_of_mem _ hy)) (vDone_sorted h1 (hk x (List.mem_cons_self ..)) num)
theorem step3_sorted {old : Nat} {num : Int} : ∀ (ks : List Spn) (s : List PI × Bool), (∀ x ∈ ks, GoodS x) → SortedP s.1 → SortedP (ks.foldl (step3 old num) s).1
 | [], _, _, h1 => h1
 | x :: r, _, hk, h1 => step3_sorted r _ (fun y hy => hk y (List.mem_cons_of_mem _ hy)) (pDone_sorted h1 (hk x (List.mem_cons_self ..)) num)
theorem sumP_sorted {c : CertV} (h1 : SortedV c.wrote) (h2 : SortedV c.wroteOut) (h3 : SortedV c.read) (h4 : SortedP c.spans) {r : RecV} (hr : r.m.s.Right) :
 SortedV (sumP c r).wrote ∧ SortedV (sumP c r).wroteOut ∧ SortedV (sumP c r).read ∧ SortedP (sumP c r).spans := by
 have e1 : SortedV ([] : List VI) := ⟨.nil, fun _ h => absurd h List.not_mem_nil⟩
 have e2 : SortedP ([] : List PI) := ⟨.nil, fun _ h => absurd h List.not_mem_nil⟩
 unfold sumP
 split
 · exact ⟨e1, e1, e1, e2⟩
 · have a := step1_sorted (old := c.old) (num := r.num) (out := r.out) r.m.s.writes (c.wrote, c.wroteOut, false) hr.writes h1 h2
   exact ⟨a.1, a.2, step2_sorted _ _ hr.reads h3, step3_sorted _ _ hr.spans h4⟩
theorem commitP_ok {c : CertV} (h : c.Ok) {m : SubM} (hm : m.s.Right) (out : Bool) (hc : c.count < 1099511627776) : (commitP c m out).Ok := by
 have hr : ∀ r ∈ c.recs ++ [⟨c.count + 1, m, out⟩], r.m.s.Right := fun r hr => by
  rcases List.mem_append.1 hr with hr | hr
  · exact h.right r hr
  · rw [List.mem_singleton] at hr; subst hr; exact hm
 have hn : ∀ r ∈ c.recs ++ [⟨c.count + 1, m, out⟩], 1 ≤ r.num ∧ r.num ≤ c.count + 1 := fun r hr => by
  have h0 := h.count.1
  rcases List.mem_append.1 hr with hr | hr
  · have := h.num r hr; omega
  · rw [List.mem_singleton] at hr; subst hr; simp only; omega
 have hl := h.len
 have hcount := h.count
 unfold commitP lessP
 have hll : (moreP c m out).recs.length = c.recs.length + 1 := by unfold moreP; simp
 split
 · rename_i hk
   cases hrs : c.recs ++ [⟨c.count + 1, m, out⟩] with
   | nil => simp at hrs
   | cons r rest =>
     have hrs' : (moreP c m out).recs = r :: rest := hrs
     rw [hrs']
     simp only
     obtain ⟨k1, k2, k3, k4, k5⟩ := sumP_keep (moreP c m out) r
     obtain ⟨s1, s2, s3, s4⟩ := sumP_sorted (c := moreP c m out) h.wrote h.wroteOut h.read h.spans (r := r) (hr r (by rw [hrs]; exact List.mem_cons_self ..))
     have hlr : rest.length + 1 = c.recs.length + 1 := by rw [← hll, hrs', List.length_cons]
     refine ⟨?_, ?_, ?_, ?_, s1, s2, s3, s4, fun q hq => hr q (by rw [hrs]; exact List.mem_cons_of_mem _ hq), fun q hq => ?_⟩
     · simp only [k1]; exact h.keep
     · simp only [k3]; exact h.old
     · simp only [k4]; simp only [moreP]; omega
     · simp only [k1]; show rest.length ≤ c.keep; omega
     · have := hn q (by rw [hrs]; exact List.mem_cons_of_mem _ hq)
       simp only [k4]
       exact this
 · rename_i hk
   refine ⟨h.keep, h.old, ?_, ?_, h.wrote, h.wroteOut, h.read, h.spans, hr, hn⟩
   · simp only [moreP]; omega
   · rw [hll] at hk ⊢
     simp only [moreP] at hk ⊢
     omega
def Step (c : CertV) (s : SubP) (code num : Int) (c' : CertV) : Prop :=
 code = refuseP c s ∧ ((code ≠ 0 ∧ num = 0 ∧ c' = c) ∨ (code = 0 ∧ num = c.count + 1 ∧ ∃ m' : SubM, m'.s = s ∧ c' = commitP c m' (decide (0 < (besideP c s).least))))
theorem refuse_right {c : CertV} {s : SubP} (hw : s.Words) (h : refuseP c s = 0) : s.Right ∧ c.count ≠ 1099511627776 ∧ s.snap ≤ c.count ∧ c.horizon ≤ s.snap ∧ (besideP c s).written = false ∧ dangerP (besideP c s) = false := by
 unfold refuseP at h
 split at h
 · rename_i h1; exact absurd h h1
 · rename_i h1
   split at h
   · omega
   · split at h
     · omega
     · split at h
       · omega
       · split at h
         · omega
         · split at h
           · omega
           · rename_i h2 h3 h4 h5 h6
             exact ⟨check_right hw (by omega), h2, by omega, by omega, by simpa using h5, by simpa using h6⟩
theorem Step.ok {c c' : CertV} {s : SubP} {code num : Int} (h : c.Ok) (hw : s.Words) (hs : Step c s code num c') : c'.Ok := by
 obtain ⟨h1, ⟨_, _, rfl⟩ | ⟨h2, _, m', h3, rfl⟩⟩ := hs
 · exact h
 · have hr := refuse_right hw (h1.symm.trans h2)
   have hc := h.count.2
   have hn := hr.2.1
   exact commitP_ok h (by rw [h3]; exact hr.1) _ (by omega)
def DecPost (κ : Nat → Nat) (w : World) (k A : Nat) (c : CertV) (s : SubP) (e : Ending) (w' : World) : Prop :=
 ∃ κ' c' code num, e = .returned (.agg #[.int .i64 code, .int .i64 num]) ∧ Chg (fun i => k ≤ i ∧ i ≤ k + 9) κ κ' w w' ∧ CertAt w' κ' k A c' ∧ Step c s code num c'
theorem dec_refuse {κ : Nat → Nat} {w w' : World} {k A : Nat} {c : CertV} {s : SubP} (hC : CertAt w κ k A c) {code : Int} (hb : Below w.heap.size w w') (h0 : code ≠ 0) (h : code = refuseP c s) : DecPost κ w k A c s (.returned (.agg #[.int .i64 code, .int .i64 0])) w' :=
 ⟨κ, c, code, 0, rfl, Chg.of_below hb, hC.chg (Chg.of_below (J := fun _ => False) hb) (fun _ h => h.elim), h, .inl ⟨h0, rfl, rfl⟩⟩
end Go.Proofs.YtpknmfmpiachkaaGreat
namespace Go.Proofs.YtpknmfmpiachkaaGreat
open Go.RowKit
structure Away (κ : Nat → Nat) (k : Nat) (m : SubM) : Prop where
 ra : ∀ b off, m.ra = some ⟨b, off, none⟩ → 0 < m.s.reads.length → κ b < k ∨ k + 9 < κ b
 sa : ∀ b off, m.sa = some ⟨b, off, none⟩ → 0 < m.s.spans.length → κ b < k ∨ k + 9 < κ b
 wa : ∀ b off, m.wa = some ⟨b, off, none⟩ → 0 < m.s.writes.length → κ b < k ∨ k + 9 < κ b
theorem SubM.ok.chg {w w' : World} {κ κ' : Nat → Nat} {k : Nat} {m : SubM} {J : Nat → Prop} (h : m.ok w) (ha : Away κ k m) (hc : Chg J κ κ' w w') (hj : ∀ i, J i → k ≤ i ∧ i ≤ k + 9) : m.ok w' ∧ Away κ' k m := by
 obtain ⟨h1, h2, h3, h4, h5, h6, h7⟩ := h
 refine ⟨⟨h1, h2.keep fun b off e hn hb => hc.block b hb fun hi => ?_, h3.keep fun b off e hn hb => hc.block b hb fun hi => ?_, h4.keep fun b off e hn hb => hc.block b hb fun hi => ?_, h5, h6, h7⟩, fun b off e hn => ?_, fun b off e hn => ?_, fun b off e hn => ?_⟩
 · have := ha.ra b off e hn; have := hj _ hi; omega
 · have := ha.sa b off e hn; have := hj _ hi; omega
 · have := ha.wa b off e hn; have := hj _ hi; omega
 · rw [hc.paint b (h2.lt (by decide) b off e hn)]; exact ha.ra b off e hn
 · rw [hc.paint b (h3.lt (by decide) b off e hn)]; exact ha.sa b off e hn
 · rw [hc.paint b (h4.lt (by decide) b off e hn)]; exact ha.wa b off e hn
theorem cert_push {κ : Nat → Nat} {W w5 Y w6 : World} {k A : Nat} {c : CertV} {N1 N2 N3 N4 : Nat} {a : Option Addr} {n cap base : Nat} {m : SubM} {num : Int} {out : Bool} {ao : Option Addr} {cp : Nat}
 (h0 : W.heap[A]? = some (.cells (certCells c a n cap N1 N2 N3 N4) 70 (0, 0))) (hA : κ A = k) (h1 : TabAt W κ (k + 1) N1 c.old c.wrote) (h2 : TabAt W κ (k + 2) N2 c.old c.wroteOut) (h3 : TabAt W κ (k + 3) N3 c.old c.read) (h4 : PTabAt W κ (k + 4) N4 c.old c.spans) (h5 : RecsAt W κ (k + 5) (k + 6) a n cap c.recs)
 (hb5 : Below W.heap.size W w5) (hm : m.ok w5) (hra : ∀ b off, m.ra = some ⟨b, off, none⟩ → W.heap.size ≤ b) (hsa : ∀ b off, m.sa = some ⟨b, off, none⟩ → W.heap.size ≤ b) (hwa : ∀ b off, m.wa = some ⟨b, off, none⟩ → W.heap.size ≤ b)
 (hbY : Below w5.heap.size w5 Y) (hbase : base ≤ W.heap.size) (ho : w6.ownsRow base 77 8 (.slice ao (n + 1) cp) (n + 1) (c.recs.flatMap RecV.cells ++ RecV.cells ⟨num, m, out⟩)) (hg : Y.grownBy w6 (Value.ownBlock (.slice a n cap)))
 (hat : Value.ownBlock (.slice ao (n + 1) cp) = Value.ownBlock (.slice a n cap) ∨ Value.ownBlock (.slice ao (n + 1) cp) = some Y.heap.size) :
 ∃ κ', Chg (fun i => i = k ∨ i = k + 5) κ κ' W (w6.setCell ⟨A, 4, none⟩ (.slice ao (n + 1) cp)) ∧ CertAt (w6.setCell ⟨A, 4, none⟩ (.slice ao (n + 1) cp)) κ' k A { c with recs := c.recs ++ [⟨num, m, out⟩] } ∧ (∀ g, w5.heap.size ≤ g → True) := by
 have hAl := lt_of_block h0
 have hgs := grown_set w6 A 4 (.slice ao (n + 1) cp)
 obtain ⟨r1, ⟨b0, hb0, r2⟩, r3, r4⟩ := h5
 have hown : ∀ g, Value.ownBlock (.slice a n cap) = some g → g < W.heap.size ∧ κ g = k + 5 := fun g h => ⟨(r2.lt g h).2, r3 g h⟩
 have hWY := Nat.le_trans hb5.size hbY.size
 have hblock : ∀ g, g < Y.heap.size → g ≠ A → Value.ownBlock (.slice a n cap) ≠ some g → (w6.setCell ⟨A, 4, none⟩ (.slice ao (n + 1) cp)).heap[g]? = Y.heap[g]? := fun g h1 h2 h3 =>
  (hgs.block g (Nat.lt_of_lt_of_le h1 hg.size) (fun e => h2 (Option.some.inj e))).trans (hg.block g h1 fun e => h3 e.symm)
 have hold : ∀ g, g < W.heap.size → Y.heap[g]? = W.heap[g]? := fun g h => (hbY.block g (Nat.lt_of_lt_of_le h hb5.size)).trans (hb5.block g h)
 obtain ⟨κ', hκ'⟩ : ∃ κ' : Nat → Nat, κ' = fun g => if g < W.heap.size then κ g else if Value.ownBlock (.slice ao (n + 1) cp) = some g then k + 5 else k + 6 := ⟨_, rfl⟩
 have hp : ∀ g, g < W.heap.size → κ' g = κ g := fun g h => by rw [hκ']; exact if_pos h
 have hc : Chg (fun i => i = k ∨ i = k + 5) κ κ' W (w6.setCell ⟨A, 4, none⟩ (.slice ao (n + 1) cp)) := by
  refine ⟨hg.os.trans (hbY.os.trans hb5.os), hg.tape.trans (hbY.tape.trans hb5.tape), hg.output.trans (hbY.output.trans hb5.output), Nat.le_trans hWY (Nat.le_trans hg.size hgs.size), hp, fun g hgl hn => ?_⟩
  refine (hblock g (Nat.lt_of_lt_of_le hgl hWY) (fun e => hn (.inl (by rw [e, hA]))) fun e => hn (.inr (hown g e).2)).trans (hold g hgl)
 refine ⟨κ', hc, ⟨N1, N2, N3, N4, ao, n + 1, cp, ?_, (hp A hAl).trans hA, h1.chg hc (by omega), h2.chg hc (by omega), h3.chg hc (by omega), h4.chg hc (by omega), ?_, ⟨base, ?_, ?_⟩, fun g h => ?_, fun r hr => ?_⟩, fun _ _ => trivial⟩
 · have hA6 : w6.heap[A]? = some (.cells (certCells c a n cap N1 N2 N3 N4) 70 (0, 0)) :=
    (hg.block A (Nat.lt_of_lt_of_le hAl hWY) fun e => by have := (hown A e.symm).2; omega).trans ((hold A hAl).trans h0)
   exact set_block (i := 4) hA6 _
 · simp only [List.length_append, List.length_singleton, r1]
 · exact Nat.le_trans hbase hc.size
 · simp only [List.flatMap_append, List.flatMap_cons, List.flatMap_nil, List.append_nil]
   refine own_keep ho fun g hgo _ => ?_
   refine hgs.block g (ho.lt g hgo).2 fun e => ?_
   have e' : g = A := Option.some.inj e
   rcases hat with h | h
   · rw [h] at hgo
     have := (hown g hgo).2
     rw [e', hA] at this
     omega
   · rw [h] at hgo
     have := Option.some.inj hgo
     omega
 · rcases hat with h' | h'
   · rw [h'] at h
     rw [hp g (hown g h).1, (hown g h).2]
   · have hgY : g = Y.heap.size := by rw [h'] at h; exact (Option.some.inj h).symm
     rw [hκ']
     show (if g < W.heap.size then κ g else if Value.ownBlock (.slice ao (n + 1) cp) = some g then k + 5 else k + 6) = k + 5
     rw [if_neg (by omega), if_pos h]
 · rcases List.mem_append.1 hr with hr | hr
   · exact (r4 r hr).chg hc (by omega)
   · rw [List.mem_singleton] at hr
     subst hr
     simp only
     have hcol : ∀ b, W.heap.size ≤ b → b < w5.heap.size → κ' b = k + 6 := fun b h1 h2 => by
      rw [hκ']
      show (if b < W.heap.size then κ b else if Value.ownBlock (.slice ao (n + 1) cp) = some b then k + 5 else k + 6) = k + 6
      rw [if_neg (by omega), if_neg]
      intro e
      rcases hat with h | h
      · rw [h] at e; have := (hown b e).1; omega
      · rw [h] at e; have := Option.some.inj e; have := hbY.size; omega
     have hkp : ∀ b, W.heap.size ≤ b → b < w5.heap.size → (w6.setCell ⟨A, 4, none⟩ (.slice ao (n + 1) cp)).heap[b]? = w5.heap[b]? := fun b h1 h2 =>
      (hblock b (Nat.lt_of_lt_of_le h2 hbY.size) (by omega) (fun e => by have := (hown b e).1; omega)).trans (hbY.block b h2)
     obtain ⟨m1, m2, m3, m4, m5, m6, m7⟩ := hm
     exact ⟨⟨m1, m2.keep fun b off e _ hb => hkp b (hra b off e) hb, m3.keep fun b off e _ hb => hkp b (hsa b off e) hb, m4.keep fun b off e _ hb => hkp b (hwa b off e) hb, m5, m6, m7⟩,
      fun b off e hn => hcol b (hra b off e) (m2.lt (by decide) b off e hn), fun b off e hn => hcol b (hsa b off e) (m3.lt (by decide) b off e hn), fun b off e hn => hcol b (hwa b off e) (m4.lt (by decide) b off e hn)⟩
theorem cert_pop {κ : Nat → Nat} {W w6 : World} {k A : Nat} {c : CertV} {N1 N2 N3 N4 : Nat} {g n cap base : Nat} {r : RecV} {rest : List RecV}
 (h0 : W.heap[A]? = some (.cells (certCells c (some ⟨g, 0, none⟩) (n + 1) cap N1 N2 N3 N4) 70 (0, 0))) (hA : κ A = k) (h1 : TabAt W κ (k + 1) N1 c.old c.wrote) (h2 : TabAt W κ (k + 2) N2 c.old c.wroteOut) (h3 : TabAt W κ (k + 3) N3 c.old c.read) (h4 : PTabAt W κ (k + 4) N4 c.old c.spans) (h5 : RecsAt W κ (k + 5) (k + 6) (some ⟨g, 0, none⟩) (n + 1) cap c.recs) (hrs : c.recs = r :: rest)
 (hbase : base ≤ W.heap.size) (ho : w6.ownsRow base 77 8 (.slice (some ⟨g, 0, none⟩) n cap) n (rest.flatMap RecV.cells)) (hg : W.grownBy w6 (some g)) :
 Chg (fun i => i = k ∨ i = k + 5) κ κ W (w6.setCell ⟨A, 4, none⟩ (.slice (some ⟨g, 0, none⟩) n cap)) ∧ CertAt (w6.setCell ⟨A, 4, none⟩ (.slice (some ⟨g, 0, none⟩) n cap)) κ k A { c with recs := rest } := by
 have hAl := lt_of_block h0
 have hgs := grown_set w6 A 4 (.slice (some ⟨g, 0, none⟩) n cap)
 obtain ⟨r1, ⟨b0, hb0, r2⟩, r3, r4⟩ := h5
 have hgk : κ g = k + 5 := r3 g rfl
 have hgl : g < W.heap.size := (r2.lt g rfl).2
 have hne : g ≠ A := fun e => by rw [e, hA] at hgk; omega
 have hc : Chg (fun i => i = k ∨ i = k + 5) κ κ W (w6.setCell ⟨A, 4, none⟩ (.slice (some ⟨g, 0, none⟩) n cap)) :=
  ((Chg.of_grown hg (J := fun i => i = k ∨ i = k + 5) (.inr hgk))).trans (Chg.of_grown hgs (.inl hA))
 refine ⟨hc, N1, N2, N3, N4, some ⟨g, 0, none⟩, n, cap, ?_, hA, h1.chg hc (by omega), h2.chg hc (by omega), h3.chg hc (by omega), h4.chg hc (by omega), ?_, ⟨base, Nat.le_trans hbase hc.size, ?_⟩, fun g' h => ?_, fun q hq => (r4 q (by rw [hrs]; exact List.mem_cons_of_mem _ hq)).chg hc (by omega)⟩
 · have hA6 : w6.heap[A]? = some (.cells (certCells c (some ⟨g, 0, none⟩) (n + 1) cap N1 N2 N3 N4) 70 (0, 0)) := (hg.block A hAl fun e => hne (Option.some.inj e).symm).trans h0
   exact set_block (i := 4) hA6 _
 · rw [hrs, List.length_cons] at r1
   simp only
   omega
 · refine own_keep ho fun g' hgo _ => hgs.block g' (ho.lt g' hgo).2 fun e => ?_
   have e1 : g' = A := Option.some.inj e
   have e2 : g = g' := Option.some.inj hgo
   exact hne (e2.trans e1)
 · have e2 : g = g' := Option.some.inj h
   rw [← e2]
   exact hgk
end Go.Proofs.YtpknmfmpiachkaaGreat
