/- Submissions: their numbers. -/
import Derived.Test.YtpknmfmpiachkaaGreatFn7
namespace Go.Proofs.YtpknmfmpiachkaaGreat
open Go.RowKit
structure SubP where
 session : Int
 seq : Int
 snap : Int
 reads : List Nat
 spans : List Spn
 writes : List Nat
structure SubM where
 s : SubP
 ra : Option Addr
 rc : Nat
 sa : Option Addr
 sc : Nat
 wa : Option Addr
 wc : Nat
def SubM.sv (m : SubM) : Value := .slice m.sa m.s.spans.length m.sc
structure SubP.Words (s : SubP) : Prop where
 reads : ∀ x ∈ s.reads, x < 18446744073709551616
 spans : ∀ x ∈ s.spans, x.ok
 writes : ∀ x ∈ s.writes, x < 18446744073709551616
structure SubM.ok (w : World) (m : SubM) : Prop where
 words : m.s.Words
 reads : RowN w m.ra 1 m.s.reads.length (cellsF m.s.reads)
 spans : RowN w m.sa 4 m.s.spans.length (m.s.spans.flatMap Spn.cells)
 writes : RowN w m.wa 1 m.s.writes.length (cellsF m.s.writes)
 lr : m.s.reads.length ≤ 9223372036854775807
 ls : m.s.spans.length ≤ 9223372036854775807
 lw : m.s.writes.length ≤ 9223372036854775807
theorem SubM.ok.below {w w' : World} {m : SubM} (h : m.ok w) (hb : Below w.heap.size w w') : m.ok w' := ⟨h.words, h.reads.below hb, h.spans.below hb, h.writes.below hb, h.lr, h.ls, h.lw⟩
theorem SubM.ok.alloc {w : World} {m : SubM} (h : m.ok w) (o : Obj) : m.ok (w.alloc o) := h.below (below_alloc (Below.refl _ _) _)
def numP (n least : Int) : Bool := decide (least ≤ n) && decide (n ≤ 1099511627776)
def numbersP (s : SubP) : Bool := numP s.session 1 && numP s.seq 1 && numP s.snap 0
def manyP (s : SubP) : Bool := decide (16 < s.reads.length) || decide (8 < s.spans.length) || decide (16 < s.writes.length)
theorem load_sub {w : World} {B : Nat} {c0 c1 c2 c3 c4 c5 : Value} (h : w.heap[B]? = some (.cells #[c0, c1, c2, c3, c4, c5] 26 (0, 0))) : (loadVar 26 ⟨B, 0, none⟩).run Tryz.prog w = .ok (.agg #[c0, c1, c2, c3, c4, c5]) w := by
 refine run_loadVar_mid w B 0 _ [c0, c1, c2, c3, c4, c5] _ (fun j v hv => ?_) Tryz.underlying26 rfl (by kernel_rfl)
 simp only [World.cell?, h, Nat.zero_add]
 rw [← hv]
 simp
theorem six_frz {w : World} {B : Nat} {T : TypeId} {c0 c1 c2 c3 c4 c5 : Value} (h : w.heap[B]? = some (.cells #[c0, c1, c2, c3, c4, c5] T (0, 0))) :
 w.frozen? ⟨B, 0, none⟩ = false ∧ w.frozen? ⟨B, 1, none⟩ = false ∧ w.frozen? ⟨B, 2, none⟩ = false ∧ w.frozen? ⟨B, 3, none⟩ = false ∧ w.frozen? ⟨B, 4, none⟩ = false ∧ w.frozen? ⟨B, 5, none⟩ = false := by
 refine ⟨?_, ?_, ?_, ?_, ?_, ?_⟩ <;> simp [World.frozen?, h]
set_option maxHeartbeats 800000 in
theorem number_any (n least : Int) (w : World) : Calls Tryz.prog 89 #[.int .i64 n, .int .i64 least] w (RetEq w (.bool (numP n least))) := by
 obtain ⟨R, hR⟩ : ∃ R, R = numP n least := ⟨_, rfl⟩
 rw [← hR]
 unfold numP at hR
 by_cases h1 : least ≤ n
 · by_cases h2 : n ≤ 1099511627776
   · have HR : Hid (R = true) := by show _ = _; rw [hR, decide_eq_true h1, decide_eq_true h2]; rfl
     clear hR
     go_enter Tryz.func89, Tryz.ntmps89
     go_wp2_with fail
     go_ret
     exact ⟨by rw [HR.out]; rfl, rfl⟩
   · have HR : Hid (R = false) := by show _ = _; rw [hR, decide_eq_true h1, decide_eq_false h2]; rfl
     clear hR
     go_enter Tryz.func89, Tryz.ntmps89
     go_wp2_with fail
     go_ret
     exact ⟨by rw [HR.out]; rfl, rfl⟩
 · have HR : Hid (R = false) := by show _ = _; rw [hR, decide_eq_false h1]; rfl
   clear hR
   go_enter Tryz.func89, Tryz.ntmps89
   go_wp2_with fail
   go_ret
   exact ⟨by rw [HR.out]; rfl, rfl⟩
set_option maxRecDepth 100000 in
set_option maxHeartbeats 1600000 in
theorem numbers_any (m : SubM) (w : World) : Calls Tryz.prog 45 #[.agg #[.int .i64 m.s.session, .int .i64 m.s.seq, .int .i64 m.s.snap, .slice m.ra m.s.reads.length m.rc, .slice m.sa m.s.spans.length m.sc, .slice m.wa m.s.writes.length m.wc]] w (RetBox w (.bool (numbersP m.s))) := by
 obtain ⟨R, hR⟩ : ∃ R, R = numbersP m.s := ⟨_, rfl⟩
 rw [← hR]
 unfold numbersP at hR
 have n1 := number_any m.s.session 1
 have n2 := number_any m.s.seq 1
 have n3 := number_any m.s.snap 0
 obtain ⟨⟨se, sq, sn, rs, ss, ws⟩, ra, rc, sa, sc, wa, wc⟩ := m
 simp only at n1 n2 n3 hR ⊢
 obtain ⟨A, hA⟩ : ∃ A, A = numP se 1 := ⟨_, rfl⟩
 obtain ⟨B, hB⟩ : ∃ B, B = numP sq 1 := ⟨_, rfl⟩
 obtain ⟨C, hC⟩ : ∃ C, C = numP sn 0 := ⟨_, rfl⟩
 rw [← hA] at n1 hR
 rw [← hB] at n2 hR
 rw [← hC] at n3 hR
 have N1 := Lib.hid n1
 have N2 := Lib.hid n2
 have N3 := Lib.hid n3
 have HR := Lib.hid hR
 clear n1 n2 n3 hA hB hC hR
 cases A with
 | false =>
   go_enter Tryz.func45, Tryz.ntmps45
   go_wp2_with fail
   refine (N1.out _).mono ?_
   rintro e w' ⟨rfl, rfl⟩
   go_wp2_with fail
   go_ret
   exact ⟨by rw [HR.out]; rfl, below_alloc (Below.refl _ _) _⟩
 | true =>
   cases B with
   | false =>
     go_enter Tryz.func45, Tryz.ntmps45
     go_wp2_with fail
     refine (N1.out _).mono ?_
     rintro e w' ⟨rfl, rfl⟩
     go_wp2_with fail
     refine (N2.out _).mono ?_
     rintro e w' ⟨rfl, rfl⟩
     go_wp2_with fail
     go_ret
     exact ⟨by rw [HR.out]; rfl, below_alloc (Below.refl _ _) _⟩
   | true =>
     go_enter Tryz.func45, Tryz.ntmps45
     go_wp2_with fail
     refine (N1.out _).mono ?_
     rintro e w' ⟨rfl, rfl⟩
     go_wp2_with fail
     refine (N2.out _).mono ?_
     rintro e w' ⟨rfl, rfl⟩
     go_wp2_with fail
     refine (N3.out _).mono ?_
     rintro e w' ⟨rfl, rfl⟩
     go_wp2_with fail
     go_ret
     exact ⟨by rw [HR.out]; rfl, below_alloc (Below.refl _ _) _⟩
set_option maxRecDepth 100000 in
set_option maxHeartbeats 1600000 in
theorem many_any (m : SubM) (w : World) : Calls Tryz.prog 46 #[.agg #[.int .i64 m.s.session, .int .i64 m.s.seq, .int .i64 m.s.snap, .slice m.ra m.s.reads.length m.rc, .slice m.sa m.s.spans.length m.sc, .slice m.wa m.s.writes.length m.wc]] w (RetBox w (.bool (manyP m.s))) := by
 obtain ⟨R, hR⟩ : ∃ R, R = manyP m.s := ⟨_, rfl⟩
 rw [← hR]
 unfold manyP at hR
 obtain ⟨⟨se, sq, sn, rs, ss, ws⟩, ra, rc, sa, sc, wa, wc⟩ := m
 simp only at hR ⊢
 obtain ⟨nr, hnr⟩ : ∃ n, n = rs.length := ⟨_, rfl⟩
 obtain ⟨ns, hns⟩ : ∃ n, n = ss.length := ⟨_, rfl⟩
 obtain ⟨nw, hnw⟩ : ∃ n, n = ws.length := ⟨_, rfl⟩
 rw [← hnr, ← hns, ← hnw] at hR ⊢
 clear hnr hns hnw
 by_cases h1 : 16 < nr
 · have HR : Hid (R = true) := by show _ = _; rw [hR, decide_eq_true h1]; rfl
   have hi : (16 : Int) < (nr : Int) := by omega
   clear hR
   go_enter Tryz.func46, Tryz.ntmps46
   go_wp2_with fail
   go_ret
   exact ⟨by rw [HR.out]; rfl, below_alloc (Below.refl _ _) _⟩
 · by_cases h2 : 8 < ns
   · have HR : Hid (R = true) := by show _ = _; rw [hR, decide_eq_false h1, decide_eq_true h2]; rfl
     have hi : ¬ (16 : Int) < (nr : Int) := by omega
     have hi2 : (8 : Int) < (ns : Int) := by omega
     clear hR
     go_enter Tryz.func46, Tryz.ntmps46
     go_wp2_with fail
     go_ret
     exact ⟨by rw [HR.out]; rfl, below_alloc (Below.refl _ _) _⟩
   · have HR : Hid (R = decide (16 < nw)) := by show _ = _; rw [hR, decide_eq_false h1, decide_eq_false h2]; rfl
     have hi : ¬ (16 : Int) < (nr : Int) := by omega
     have hi2 : ¬ (8 : Int) < (ns : Int) := by omega
     clear hR
     by_cases h3 : 16 < nw
     · have hi3 : (16 : Int) < (nw : Int) := by omega
       have HR2 : Hid (R = true) := by show _ = _; rw [HR.out, decide_eq_true h3]
       go_enter Tryz.func46, Tryz.ntmps46
       go_wp2_with fail
       go_ret
       exact ⟨by rw [HR2.out]; rfl, below_alloc (Below.refl _ _) _⟩
     · have hi3 : ¬ (16 : Int) < (nw : Int) := by omega
       have HR2 : Hid (R = false) := by show _ = _; rw [HR.out, decide_eq_false h3]
       go_enter Tryz.func46, Tryz.ntmps46
       go_wp2_with fail
       go_ret
       exact ⟨by rw [HR2.out]; rfl, below_alloc (Below.refl _ _) _⟩
end Go.Proofs.YtpknmfmpiachkaaGreat
namespace Go.Proofs.YtpknmfmpiachkaaGreat
open Go.RowKit
theorem least_code (a b : Nat) : Flo.code (Flo.least2 a b) ≤ Flo.code a ∧ Flo.code (Flo.least2 a b) ≤ Flo.code b := by
 unfold Flo.least2
 by_cases h : Flo.cmp b a < 0
 · rw [if_pos h]; rw [cmpF_lt] at h; omega
 · rw [if_neg h]; rw [cmpF_lt] at h; omega
theorem most_code (a b : Nat) : Flo.code a ≤ Flo.code (Flo.most2 a b) ∧ Flo.code b ≤ Flo.code (Flo.most2 a b) := by
 have h2 : 0 < Flo.cmp b a ↔ Flo.code a < Flo.code b := by
  unfold Flo.cmp Flo.cmpN
  repeat' split
  all_goals omega
 unfold Flo.most2
 by_cases h : 0 < Flo.cmp b a
 · rw [if_pos h]; rw [h2] at h; omega
 · rw [if_neg h]; rw [h2] at h; omega
theorem least_one (a b : Nat) : Flo.least2 a b = a ∨ Flo.least2 a b = b := by unfold Flo.least2; split <;> simp
theorem most_one (a b : Nat) : Flo.most2 a b = a ∨ Flo.most2 a b = b := by unfold Flo.most2; split <;> simp
theorem joinS_good {a b : Spn} (ha : GoodS a) (hb : GoodS b) (h : (joinS a b).2 = true) : GoodS (joinS a b).1 := by
 unfold joinS at h ⊢
 rw [ha.canon, hb.canon, ha.lop, hb.lop] at h ⊢
 simp only [Bool.false_eq_true, if_false] at h ⊢
 split at h
 · cases h
 · rename_i hc
   rw [if_neg hc]
   have l1 : Flo.least a.lo b.lo = Flo.least2 a.lo b.lo := by
    unfold Flo.least
    rcases least_one a.lo b.lo with e | e <;> rw [e]
    · exact ha.clo
    · exact hb.clo
   have m1 : Flo.most a.hi b.hi = Flo.most2 a.hi b.hi := by
    unfold Flo.most
    rcases most_one a.hi b.hi with e | e <;> rw [e]
    · exact ha.chi
    · exact hb.chi
   rw [l1, m1]
   have k1 := least_code a.lo b.lo
   have k2 := most_code a.hi b.hi
   have k3 := ha.le
   refine ⟨⟨?_, ?_⟩, ?_, ?_, ?_, ?_, by show Flo.code (Flo.least2 _ _) ≤ Flo.code (Flo.most2 _ _); omega, rfl, rfl⟩
   · show Flo.least2 _ _ < _; rcases least_one a.lo b.lo with e | e <;> rw [e]; exact ha.ok.1; exact hb.ok.1
   · show Flo.most2 _ _ < _; rcases most_one a.hi b.hi with e | e <;> rw [e]; exact ha.ok.2; exact hb.ok.2
   · show Flo.nan (Flo.least2 _ _) = _; rcases least_one a.lo b.lo with e | e <;> rw [e]; exact ha.nlo; exact hb.nlo
   · show Flo.nan (Flo.most2 _ _) = _; rcases most_one a.hi b.hi with e | e <;> rw [e]; exact ha.nhi; exact hb.nhi
   · show Flo.canon (Flo.least2 _ _) = Flo.least2 _ _; rcases least_one a.lo b.lo with e | e <;> rw [e]; exact ha.clo; exact hb.clo
   · show Flo.canon (Flo.most2 _ _) = Flo.most2 _ _; rcases most_one a.hi b.hi with e | e <;> rw [e]; exact ha.chi; exact hb.chi
theorem joinL_good : ∀ (l out : List Spn), (∀ s ∈ out, GoodS s) → (∀ s ∈ l, GoodS s) → ∀ s ∈ joinL out l, GoodS s
 | [], out, ho, _ => ho
 | x :: r, out, ho, hl => by
   have hx := hl x (List.mem_cons_self ..)
   have hr : ∀ s ∈ r, GoodS s := fun s hs => hl s (List.mem_cons_of_mem _ hs)
   have hap : ∀ s ∈ out ++ [x], GoodS s := fun s hs => by
    rcases List.mem_append.1 hs with hs | hs
    · exact ho s hs
    · rw [List.mem_singleton] at hs; subst hs; exact hx
   cases hg : out.getLast? with
   | none =>
     rw [joinL, hg]
     exact joinL_good r _ hap hr
   | some p =>
     cases hj : (joinS p x).2 with
     | false => rw [joinL_no out p x r hg hj]; exact joinL_good r _ hap hr
     | true =>
       rw [joinL_yes out p x r hg hj]
       refine joinL_good r _ (fun s hs => ?_) hr
       rcases List.mem_append.1 hs with hs | hs
       · exact ho s (List.dropLast_subset _ hs)
       · rw [List.mem_singleton] at hs; subst hs
         exact joinS_good (ho p (List.mem_of_getLast? hg)) hx hj
theorem normS_good (ss : List Spn) (h : ∀ s ∈ ss, s.ok) : ∀ s ∈ normS ss, GoodS s := by
 unfold normS
 refine joinL_good _ _ (fun s hs => by cases hs) (fun s hs => ?_)
 unfold sortG at hs
 exact allS_good ss h s ((List.mergeSort_perm _ _).mem_iff.1 hs)
theorem joinL_len : ∀ (l out : List Spn), (joinL out l).length ≤ out.length + l.length
 | [], out => by rw [joinL]; simp
 | x :: r, out => by
   cases hg : out.getLast? with
   | none =>
     rw [joinL, hg]
     have := joinL_len r (out ++ [x])
     simp only [List.length_append, List.length_cons, List.length_nil] at this ⊢
     omega
   | some p =>
     cases hj : (joinS p x).2 with
     | false =>
       rw [joinL_no out p x r hg hj]
       have := joinL_len r (out ++ [x])
       simp only [List.length_append, List.length_cons, List.length_nil] at this ⊢
       omega
     | true =>
       rw [joinL_yes out p x r hg hj]
       have := joinL_len r (out.dropLast ++ [(joinS p x).1])
       simp only [List.length_append, List.length_cons, List.length_nil, List.length_dropLast] at this ⊢
       omega
theorem normS_len (ss : List Spn) : (normS ss).length ≤ ss.length := by
 have h := joinL_len (sortG (allS ss)) []
 have h2 : (sortG (allS ss)).length ≤ ss.length := by
  unfold sortG allS
  rw [List.length_mergeSort]
  refine Nat.le_trans (List.length_filter_le _ _) ?_
  rw [List.length_map]
  exact Nat.le_refl _
 unfold normS
 simp only [List.length_nil] at h
 omega
theorem eqL_sameS (xs ys : List Spn) (h : eqL sameS xs ys = true) : xs = ys := by
 induction xs generalizing ys with
 | nil => cases ys with
   | nil => rfl
   | cons => cases h
 | cons x xs ih => cases ys with
   | nil => cases h
   | cons y ys =>
     rw [eqL, Bool.and_eq_true] at h
     have h1 := h.1
     unfold sameS eqSp eqW at h1
     simp only [Bool.and_eq_true, beq_iff_eq, decide_eq_true_eq] at h1
     obtain ⟨⟨⟨⟨_, e3⟩, e4⟩, e1⟩, e2⟩ := h1
     rw [ih ys h.2]
     obtain ⟨a, b, c, d⟩ := x
     obtain ⟨a', b', c', d'⟩ := y
     simp only at e1 e2 e3 e4
     rw [e1, e2, e3, e4]
def orderP (s : SubP) : Bool := eqL eqW s.reads (sortF s.reads) && eqL eqW s.writes (sortF s.writes) && eqL sameS s.spans (normS s.spans)
def checkP (s : SubP) : Int :=
 if numbersP s = false then 43 else if manyP s then 3 else if s.reads.any Flo.nan || s.writes.any Flo.nan then 40 else if s.spans.any emptyS then 41 else if orderP s = false then 42 else 0
structure SubP.Right (s : SubP) : Prop where
 session : 1 ≤ s.session ∧ s.session ≤ 1099511627776
 seq : 1 ≤ s.seq ∧ s.seq ≤ 1099511627776
 snap : 0 ≤ s.snap ∧ s.snap ≤ 1099511627776
 lr : s.reads.length ≤ 16
 ls : s.spans.length ≤ 8
 lw : s.writes.length ≤ 16
 reads : ∀ x ∈ s.reads, x < 18446744073709551616 ∧ Flo.nan x = false ∧ Flo.canon x = x
 writes : ∀ x ∈ s.writes, x < 18446744073709551616 ∧ Flo.nan x = false ∧ Flo.canon x = x
 spans : ∀ x ∈ s.spans, GoodS x
theorem check_right {s : SubP} (hw : s.Words) (h : checkP s = 0) : s.Right := by
 unfold checkP at h
 split at h
 · omega
 · split at h
   · omega
   · split at h
     · omega
     · split at h
       · omega
       · split at h
         · omega
         · rename_i h1 h2 h3 h4 h5
           unfold numbersP numP at h1
           unfold manyP at h2
           unfold orderP at h5
           simp only [Bool.not_eq_false, Bool.and_eq_true, decide_eq_true_eq] at h1
           simp only [Bool.or_eq_true, decide_eq_true_eq, not_or] at h2
           simp only [Bool.or_eq_true, not_or, Bool.not_eq_true, List.any_eq_false] at h3
           simp only [Bool.not_eq_false, Bool.and_eq_true] at h5
           have e1 := eqL_eqW _ _ h5.1.1
           have e2 := eqL_eqW _ _ h5.1.2
           have e3 := eqL_sameS _ _ h5.2
           refine ⟨⟨h1.1.1.1, h1.1.1.2⟩, ⟨h1.1.2.1, h1.1.2.2⟩, ⟨h1.2.1, h1.2.2⟩, by omega, by omega, by omega, ?_, ?_, ?_⟩
           · intro x hx
             refine ⟨hw.reads x hx, by simpa using h3.1 x hx, ?_⟩
             rw [e1] at hx
             exact (sortF_good _ x hx).2
           · intro x hx
             refine ⟨hw.writes x hx, by simpa using h3.2 x hx, ?_⟩
             rw [e2] at hx
             exact (sortF_good _ x hx).2
           · intro x hx
             rw [e3] at hx
             exact normS_good _ hw.spans x hx
theorem isNaN_fn (x : Nat) (W : World) : Calls Tryz.prog 48 (#[.float .f64 x] ++ #[]) W (RetBox W (.bool (Flo.nan x))) := (isNaN_any x W).mono fun _ _ h => ⟨h.1, by rw [← h.2]; exact Below.refl _ _⟩
set_option maxRecDepth 100000 in
set_option maxHeartbeats 6400000 in
theorem check_any (m : SubM) (w : World) (hm : m.ok w) : Calls Tryz.prog 23 #[.agg #[.int .i64 m.s.session, .int .i64 m.s.seq, .int .i64 m.s.snap, .slice m.ra m.s.reads.length m.rc, .slice m.sa m.s.spans.length m.sc, .slice m.wa m.s.writes.length m.wc]] w (RetBox w (.int .i64 (checkP m.s))) := by
 obtain ⟨R, hR⟩ : ∃ R, R = checkP m.s := ⟨_, rfl⟩
 rw [← hR]
 unfold checkP at hR
 have n1 := numbers_any m
 have n2 := many_any m
 obtain ⟨W, hW⟩ : ∃ W, W = w.alloc (.cells #[.int .i64 m.s.session, .int .i64 m.s.seq, .int .i64 m.s.snap, .slice m.ra m.s.reads.length m.rc, .slice m.sa m.s.spans.length m.sc, .slice m.wa m.s.writes.length m.wc] 26) := ⟨_, rfl⟩
 have hB : W.heap[w.heap.size]? = some (.cells #[.int .i64 m.s.session, .int .i64 m.s.seq, .int .i64 m.s.snap, .slice m.ra m.s.reads.length m.rc, .slice m.sa m.s.spans.length m.sc, .slice m.wa m.s.writes.length m.wc] 26 (0, 0)) := hW ▸ heap_alloc_new w _
 have hbw : Below w.heap.size w W := hW ▸ below_alloc (Below.refl _ _) _
 have hmW : m.ok W := hm.below hbw
 have HN1 := Lib.hid n1
 have HN2 := Lib.hid n2
 have HR := Lib.hid hR
 have HW := Lib.hid hW
 have HB := Lib.hid hB
 have HBW := Lib.hid hbw
 have HM := Lib.hid hmW
 clear n1 n2 hR hW hB hbw hmW hm
 have eg1 : ∀ args w, (callFunc 48 args).run Tryz.prog w = .ok (.enter 48 args) w := enters_of Tryz.func48 (by kernel_rfl) rfl
 have eg2 : ∀ args w, (callFunc 50 args).run Tryz.prog w = .ok (.enter 50 args) w := enters_of Tryz.func50 (by kernel_rfl) rfl
 have EG1 := Lib.hid eg1
 have EG2 := Lib.hid eg2
 clear eg1 eg2
 have hB := HB.out
 obtain ⟨c0, c1, c2, c3, c4, c5⟩ := six_cells hB
 clear hB
 go_enter Tryz.func23, Tryz.ntmps23
 go_wp2_with fail
 rw [← HW.out]
 clear HW
 refine (HN1.out _).mono ?_
 rintro e w1 ⟨rfl, hb1⟩
 have hB1 := (hb1.block w.heap.size (lt_of_block HB.out)).trans HB.out
 have HBW1 := Lib.hid (below_then HBW.out hb1)
 have HM1 := Lib.hid (HM.out.below hb1)
 have HB1 := Lib.hid hB1
 obtain ⟨c10, c11, c12, c13, c14, c15⟩ := six_cells hB1
 clear hb1 hB1
 clear c0 c1 c2 c3 c4 c5
 cases hN : numbersP m.s with
 | false =>
   have HR2 : Hid (R = 43) := by show _ = _; rw [HR.out, if_pos hN]
   clear hN
   go_wp2_with fail
   go_ret
   exact ⟨ret_int HR2.out.symm, HBW1.out⟩
 | true =>
   have HR1 := Lib.hid (HR.out.trans (if_neg (by rw [hN]; simp)))
   clear hN HR HN1 HB HBW HM
   go_wp2_with fail
   refine (HN2.out _).mono ?_
   rintro e w2 ⟨rfl, hb2⟩
   have hB2 := (hb2.block w.heap.size (lt_of_block HB1.out)).trans HB1.out
   have HBW2 := Lib.hid (below_then HBW1.out hb2)
   have HM2 := Lib.hid (HM1.out.below hb2)
   have HB2 := Lib.hid hB2
   obtain ⟨c20, c21, c22, c23, c24, c25⟩ := six_cells hB2
   clear hb2 hB2
   clear c10 c11 c12 c13 c14 c15
   cases hMn : manyP m.s with
   | true =>
     have HR2 : Hid (R = 3) := by show _ = _; rw [HR1.out, if_pos hMn]
     clear hMn
     go_wp2_with fail
     go_ret
     exact ⟨ret_int HR2.out.symm, HBW2.out⟩
   | false =>
     have HR3 := Lib.hid (HR1.out.trans (if_neg (by rw [hMn]; simp)))
     have hlens : m.s.reads.length ≤ 16 ∧ m.s.spans.length ≤ 8 ∧ m.s.writes.length ≤ 16 := by
      unfold manyP at hMn
      simp only [Bool.or_eq_false_iff, decide_eq_false_iff_not] at hMn
      omega
     obtain ⟨hlr, hls, hlw⟩ := hlens
     have C3 := Lib.hid fun Z (hZ : m.ok Z) => containsF_any 48 #[] Flo.nan m.s.reads m.ra m.s.reads.length m.rc Z hZ.reads rfl (by omega) EG1.out (fun x _ W _ => isNaN_fn x W)
     have C4 := Lib.hid fun Z (hZ : m.ok Z) => containsF_any 48 #[] Flo.nan m.s.writes m.wa m.s.writes.length m.wc Z hZ.writes rfl (by omega) EG1.out (fun x _ W _ => isNaN_fn x W)
     have C5 := Lib.hid fun Z (hZ : m.ok Z) => containsS_any 50 #[] emptyS m.s.spans m.sa m.s.spans.length m.sc Z hZ.spans rfl (by omega) EG2.out (fun x hx W _ => emptyS_any x (hZ.words.spans x hx) W)
     clear hMn HR1 HN2 HB1 HBW1 HM1
     go_wp2_with fail
     refine (C3.out _ HM2.out).mono ?_
     rintro e w3 ⟨rfl, hb3⟩
     have hB3 := (hb3.block w.heap.size (lt_of_block HB2.out)).trans HB2.out
     have HBW3 := Lib.hid (below_then HBW2.out hb3)
     have HM3 := Lib.hid (HM2.out.below hb3)
     have HB3 := Lib.hid hB3
     obtain ⟨c30, c31, c32, c33, c34, c35⟩ := six_cells hB3
     clear hb3 hB3
     clear c20 c21 c22 c23 c24 c25
     cases h3 : m.s.reads.any Flo.nan with
     | true =>
       have HR2 : Hid (R = 40) := by show _ = _; rw [HR3.out, if_pos (by rw [h3]; rfl)]
       clear h3
       go_wp2_with fail
       go_ret
       exact ⟨ret_int HR2.out.symm, HBW3.out⟩
     | false =>
       go_wp2_with fail
       refine (C4.out _ HM3.out).mono ?_
       rintro e w4 ⟨rfl, hb4⟩
       have hB4 := (hb4.block w.heap.size (lt_of_block HB3.out)).trans HB3.out
       have HBW4 := Lib.hid (below_then HBW3.out hb4)
       have HM4 := Lib.hid (HM3.out.below hb4)
       have HB4 := Lib.hid hB4
       obtain ⟨c40, c41, c42, c43, c44, c45⟩ := six_cells hB4
       clear hb4 hB4
       clear c30 c31 c32 c33 c34 c35
       cases h4 : m.s.writes.any Flo.nan with
       | true =>
         have HR2 : Hid (R = 40) := by show _ = _; rw [HR3.out, if_pos (by rw [h3, h4]; rfl)]
         clear h3 h4
         go_wp2_with fail
         go_ret
         exact ⟨ret_int HR2.out.symm, HBW4.out⟩
       | false =>
         have HR4 := Lib.hid (HR3.out.trans (if_neg (by rw [h3, h4]; simp)))
         clear h3 h4 HR3 C3 C4 HB2 HBW2 HM2 HB3 HBW3 HM3
         go_wp2_with fail
         refine (C5.out _ HM4.out).mono ?_
         rintro e w5 ⟨rfl, hb5⟩
         have hB5 := (hb5.block w.heap.size (lt_of_block HB4.out)).trans HB4.out
         have HBW5 := Lib.hid (below_then HBW4.out hb5)
         have HM5 := Lib.hid (HM4.out.below hb5)
         have HB5 := Lib.hid hB5
         obtain ⟨c50, c51, c52, c53, c54, c55⟩ := six_cells hB5
         clear hb5 hB5
         clear c40 c41 c42 c43 c44 c45
         cases h5 : m.s.spans.any emptyS with
         | true =>
           have HR2 : Hid (R = 41) := by show _ = _; rw [HR4.out, if_pos h5]
           clear h5
           go_wp2_with fail
           go_ret
           exact ⟨ret_int HR2.out.symm, HBW5.out⟩
         | false =>
           have HR5 := Lib.hid (HR4.out.trans (if_neg (by rw [h5]; simp)))
           clear h5 HR4 C5 HB4 HBW4 HM4 EG1 EG2
           have S1 := Lib.hid fun Z (hZ : m.ok Z) => rising_any m.s.reads hZ.words.reads m.ra m.s.reads.length m.rc Z hZ.reads rfl (by omega)
           have S2 := Lib.hid fun Z (hZ : m.ok Z) => rising_any m.s.writes hZ.words.writes m.wa m.s.writes.length m.wc Z hZ.writes rfl (by omega)
           have S3 := Lib.hid fun Z (hZ : m.ok Z) => normS_any m.s.spans m.sa m.s.spans.length m.sc Z hZ.spans rfl hZ.words.spans (by omega)
           have hnl := normS_len m.s.spans
           have S4 := Lib.hid fun Z (hZ : m.ok Z) (ao : Option Addr) (cp : Nat) (h : RowN Z ao 4 (normS m.s.spans).length ((normS m.s.spans).flatMap Spn.cells)) => eqS_any m.s.spans (normS m.s.spans) hZ.words.spans (fun x hx => (normS_good _ hZ.words.spans x hx).ok) m.sa ao m.s.spans.length (normS m.s.spans).length m.sc cp Z hZ.spans h rfl rfl (by omega) (by omega)
           go_wp2_with fail
           have hkeep : ∀ Z, Below w5.heap.size w5 Z → Z.cell? ⟨w.heap.size, 3, none⟩ = some (.slice m.ra m.s.reads.length m.rc) ∧ Z.cell? ⟨w.heap.size, 4, none⟩ = some (.slice m.sa m.s.spans.length m.sc) ∧ Z.cell? ⟨w.heap.size, 5, none⟩ = some (.slice m.wa m.s.writes.length m.wc) := fun Z hZ => by
            have q := six_cells ((hZ.block _ (lt_of_block HB5.out)).trans HB5.out)
            exact ⟨q.2.2.2.1, q.2.2.2.2.1, q.2.2.2.2.2⟩
           have HKEEP := Lib.hid hkeep
           clear hkeep c50 c51 c52 c53 c54 c55 hlr hls hlw hnl HB5
           cases q1 : eqL eqW m.s.reads (sortF m.s.reads) with
           | false =>
             have Q1 : Hid (∀ Z, m.ok Z → Calls Tryz.prog 51 #[.slice m.ra m.s.reads.length m.rc] Z (RetBox Z (.bool false))) := by
              show ∀ Z, _ → _
              intro Z hZ
              rw [← q1]
              exact S1.out Z hZ
             have HR2 : Hid (R = 42) := by show _ = _; rw [HR5.out, if_pos (by unfold orderP; rw [q1]; rfl)]
             clear q1
             refine wp_region_noPanic ?_
             refine wp_region_held_drew (S := (fun w' => w'.cell? ⟨w.heap.size, 3, none⟩ = some (.slice m.ra m.s.reads.length m.rc) ∧ w'.cell? ⟨w.heap.size, 4, none⟩ = some (.slice m.sa m.s.spans.length m.sc) ∧ w'.cell? ⟨w.heap.size, 5, none⟩ = some (.slice m.wa m.s.writes.length m.wc))) (by kernel_rfl) ?_ (fun hHeld0 => ?_)
             · refine HKEEP.out _ ?_; (repeat (first | assumption | exact Below.refl _ _ | refine below_alloc ?_ _ | refine below_drewN ?_ _ | refine Below.drew ?_))
             refine wu 0 rfl ?_
             refine wu 1 rfl ?_
             refine wy 2 rfl fun K hK => ?_
             go_simp
             go_at_call 51
             refine (Q1.out _ (HM5.out.below (by (repeat (first | assumption | exact Below.refl _ _ | refine below_alloc ?_ _ | refine below_drewN ?_ _ | refine Below.drew ?_))))).mono ?_
             rintro e w6 ⟨rfl, hb6⟩
             have hk6 : Below w5.heap.size w5 w6 := below_then (by (repeat (first | assumption | exact Below.refl _ _ | refine below_alloc ?_ _ | refine below_drewN ?_ _ | refine Below.drew ?_))) hb6
             clear hb6
             go_wp2_with fail
             refine hK.out _ _ ?_ (fun hHeld1 => ?_)
             · refine HKEEP.out _ ?_; (repeat (first | assumption | exact Below.refl _ _ | refine below_alloc ?_ _ | refine below_drewN ?_ _ | refine Below.drew ?_))
             clear hK K hHeld0
             try simp only [Act.put, List.setIfInBounds_toArray, List.set]
             refine wu 3 rfl ?_
             refine wu 4 rfl ?_
             refine wv 5 rfl ?_
             refine wv 6 rfl ?_
             refine wv 7 rfl ?_
             refine wv 8 rfl ?_
             refine wu 9 rfl ?_
             refine wu 10 rfl ?_
             refine wv 11 rfl ?_
             refine wv 12 rfl ?_
             refine wv 13 rfl ?_
             refine wv 14 rfl ?_
             refine wv 15 rfl ?_
             refine wv 16 rfl ?_
             refine wv 17 rfl ?_
             refine wu 18 rfl ?_
             refine wu 19 rfl ?_
             refine wpAnyH_done (by kernel_rfl) ?_ _
             refine NoPanic.normal ?_
             go_wp2_with fail
             go_ret
             exact ⟨ret_int HR2.out.symm, below_then HBW5.out hk6⟩
           | true =>
             have Q1 : Hid (∀ Z, m.ok Z → Calls Tryz.prog 51 #[.slice m.ra m.s.reads.length m.rc] Z (RetBox Z (.bool true))) := by
              show ∀ Z, _ → _
              intro Z hZ
              rw [← q1]
              exact S1.out Z hZ
             cases q2 : eqL eqW m.s.writes (sortF m.s.writes) with
             | false =>
               have Q2 : Hid (∀ Z, m.ok Z → Calls Tryz.prog 51 #[.slice m.wa m.s.writes.length m.wc] Z (RetBox Z (.bool false))) := by
                show ∀ Z, _ → _
                intro Z hZ
                rw [← q2]
                exact S2.out Z hZ
               have HR2 : Hid (R = 42) := by show _ = _; rw [HR5.out, if_pos (by unfold orderP; rw [q1, q2]; rfl)]
               clear q1 q2
               refine wp_region_noPanic ?_
               refine wp_region_held_drew (S := (fun w' => w'.cell? ⟨w.heap.size, 3, none⟩ = some (.slice m.ra m.s.reads.length m.rc) ∧ w'.cell? ⟨w.heap.size, 4, none⟩ = some (.slice m.sa m.s.spans.length m.sc) ∧ w'.cell? ⟨w.heap.size, 5, none⟩ = some (.slice m.wa m.s.writes.length m.wc))) (by kernel_rfl) ?_ (fun hHeld0 => ?_)
               · refine HKEEP.out _ ?_; (repeat (first | assumption | exact Below.refl _ _ | refine below_alloc ?_ _ | refine below_drewN ?_ _ | refine Below.drew ?_))
               refine wu 0 rfl ?_
               refine wu 1 rfl ?_
               refine wy 2 rfl fun K hK => ?_
               go_simp
               go_at_call 51
               refine (Q1.out _ (HM5.out.below (by (repeat (first | assumption | exact Below.refl _ _ | refine below_alloc ?_ _ | refine below_drewN ?_ _ | refine Below.drew ?_))))).mono ?_
               rintro e w6 ⟨rfl, hb6⟩
               have hk6 : Below w5.heap.size w5 w6 := below_then (by (repeat (first | assumption | exact Below.refl _ _ | refine below_alloc ?_ _ | refine below_drewN ?_ _ | refine Below.drew ?_))) hb6
               clear hb6
               go_wp2_with fail
               refine hK.out _ _ ?_ (fun hHeld1 => ?_)
               · refine HKEEP.out _ ?_; (repeat (first | assumption | exact Below.refl _ _ | refine below_alloc ?_ _ | refine below_drewN ?_ _ | refine Below.drew ?_))
               clear hK K hHeld0
               try simp only [Act.put, List.setIfInBounds_toArray, List.set]
               refine wu 3 rfl ?_
               refine wu 4 rfl ?_
               refine wu 5 rfl ?_
               refine wu 6 rfl ?_
               refine wy 7 rfl fun K hK => ?_
               go_simp
               go_at_call 51
               refine (Q2.out _ (HM5.out.below hk6)).mono ?_
               rintro e w7 ⟨rfl, hb7⟩
               have hk7 : Below w5.heap.size w5 w7 := below_then hk6 hb7
               clear hb7
               go_wp2_with fail
               refine hK.out _ _ ?_ (fun hHeld2 => ?_)
               · refine HKEEP.out _ ?_; (repeat (first | assumption | exact Below.refl _ _ | refine below_alloc ?_ _ | refine below_drewN ?_ _ | refine Below.drew ?_))
               clear hK K hHeld1
               try simp only [Act.put, List.setIfInBounds_toArray, List.set]
               refine wu 8 rfl ?_
               refine wu 9 rfl ?_
               refine wu 10 rfl ?_
               refine wv 11 rfl ?_
               refine wv 12 rfl ?_
               refine wv 13 rfl ?_
               refine wv 14 rfl ?_
               refine wv 15 rfl ?_
               refine wv 16 rfl ?_
               refine wv 17 rfl ?_
               refine wu 18 rfl ?_
               refine wu 19 rfl ?_
               refine wpAnyH_done (by kernel_rfl) ?_ _
               refine NoPanic.normal ?_
               go_wp2_with fail
               go_ret
               exact ⟨ret_int HR2.out.symm, below_then HBW5.out hk7⟩
             | true =>
               have Q2 : Hid (∀ Z, m.ok Z → Calls Tryz.prog 51 #[.slice m.wa m.s.writes.length m.wc] Z (RetBox Z (.bool true))) := by
                show ∀ Z, _ → _
                intro Z hZ
                rw [← q2]
                exact S2.out Z hZ
               cases q4 : eqL sameS m.s.spans (normS m.s.spans) with
               | false =>
                 have Q4 : Hid (∀ Z, m.ok Z → ∀ (ao : Option Addr) (cp : Nat), RowN Z ao 4 (normS m.s.spans).length ((normS m.s.spans).flatMap Spn.cells) → Calls Tryz.prog 52 #[.slice m.sa m.s.spans.length m.sc, .slice ao (normS m.s.spans).length cp, .func (.func 54) #[] #[]] Z (RetBox Z (.bool false))) := by
                  show ∀ Z, _ → _
                  intro Z hZ ao cp h
                  rw [← q4]
                  exact S4.out Z hZ ao cp h
                 have HR2 : Hid (R = 42) := by show _ = _; rw [HR5.out, if_pos (by unfold orderP; rw [q1, q2, q4]; rfl)]
                 clear q1 q2 q4
                 refine wp_region_noPanic ?_
                 refine wp_region_held_drew (S := (fun w' => w'.cell? ⟨w.heap.size, 3, none⟩ = some (.slice m.ra m.s.reads.length m.rc) ∧ w'.cell? ⟨w.heap.size, 4, none⟩ = some (.slice m.sa m.s.spans.length m.sc) ∧ w'.cell? ⟨w.heap.size, 5, none⟩ = some (.slice m.wa m.s.writes.length m.wc))) (by kernel_rfl) ?_ (fun hHeld0 => ?_)
                 · refine HKEEP.out _ ?_; (repeat (first | assumption | exact Below.refl _ _ | refine below_alloc ?_ _ | refine below_drewN ?_ _ | refine Below.drew ?_))
                 refine wu 0 rfl ?_
                 refine wu 1 rfl ?_
                 refine wy 2 rfl fun K hK => ?_
                 go_simp
                 go_at_call 51
                 refine (Q1.out _ (HM5.out.below (by (repeat (first | assumption | exact Below.refl _ _ | refine below_alloc ?_ _ | refine below_drewN ?_ _ | refine Below.drew ?_))))).mono ?_
                 rintro e w6 ⟨rfl, hb6⟩
                 have hk6 : Below w5.heap.size w5 w6 := below_then (by (repeat (first | assumption | exact Below.refl _ _ | refine below_alloc ?_ _ | refine below_drewN ?_ _ | refine Below.drew ?_))) hb6
                 clear hb6
                 go_wp2_with fail
                 refine hK.out _ _ ?_ (fun hHeld1 => ?_)
                 · refine HKEEP.out _ ?_; (repeat (first | assumption | exact Below.refl _ _ | refine below_alloc ?_ _ | refine below_drewN ?_ _ | refine Below.drew ?_))
                 clear hK K hHeld0
                 try simp only [Act.put, List.setIfInBounds_toArray, List.set]
                 refine wu 3 rfl ?_
                 refine wu 4 rfl ?_
                 refine wu 5 rfl ?_
                 refine wu 6 rfl ?_
                 refine wy 7 rfl fun K hK => ?_
                 go_simp
                 go_at_call 51
                 refine (Q2.out _ (HM5.out.below hk6)).mono ?_
                 rintro e w7 ⟨rfl, hb7⟩
                 have hk7 : Below w5.heap.size w5 w7 := below_then hk6 hb7
                 clear hb7
                 go_wp2_with fail
                 refine hK.out _ _ ?_ (fun hHeld2 => ?_)
                 · refine HKEEP.out _ ?_; (repeat (first | assumption | exact Below.refl _ _ | refine below_alloc ?_ _ | refine below_drewN ?_ _ | refine Below.drew ?_))
                 clear hK K hHeld1
                 try simp only [Act.put, List.setIfInBounds_toArray, List.set]
                 refine wu 8 rfl ?_
                 refine wu 9 rfl ?_
                 refine wu 10 rfl ?_
                 refine wu 11 rfl ?_
                 refine wu 12 rfl ?_
                 refine wu 13 rfl ?_
                 refine wu 14 rfl ?_
                 refine wy 15 rfl fun K hK => ?_
                 go_simp
                 go_at_call 53
                 refine (S3.out _ (HM5.out.below hk7)).mono ?_
                 rintro e w8 ⟨ao, nn, cp, rfl, hnn, hown8, hb8⟩
                 have hk8 : Below w5.heap.size w5 w8 := below_then hk7 hb8
                 subst hnn
                 have HR8 := Lib.hid (RowN.of_own hown8)
                 clear hb8 hown8
                 go_wp2_with fail
                 refine hK.out _ _ ?_ (fun hHeld3 => ?_)
                 · refine HKEEP.out _ ?_; (repeat (first | assumption | exact Below.refl _ _ | refine below_alloc ?_ _ | refine below_drewN ?_ _ | refine Below.drew ?_))
                 clear hK K hHeld2
                 try simp only [Act.put, List.setIfInBounds_toArray, List.set]
                 refine wy 16 rfl fun K hK => ?_
                 go_simp
                 go_at_call 52
                 refine (Q4.out _ (HM5.out.below hk8) _ _ HR8.out).mono ?_
                 rintro e w9 ⟨rfl, hb9⟩
                 have hk9 : Below w5.heap.size w5 w9 := below_then hk8 hb9
                 clear hb9
                 go_wp2_with fail
                 refine hK.out _ _ ?_ (fun hHeld4 => ?_)
                 · refine HKEEP.out _ ?_; (repeat (first | assumption | exact Below.refl _ _ | refine below_alloc ?_ _ | refine below_drewN ?_ _ | refine Below.drew ?_))
                 clear hK K hHeld3
                 try simp only [Act.put, List.setIfInBounds_toArray, List.set]
                 refine wu 17 rfl ?_
                 refine wu 18 rfl ?_
                 refine wu 19 rfl ?_
                 refine wpAnyH_done (by kernel_rfl) ?_ _
                 refine NoPanic.normal ?_
                 go_wp2_with fail
                 go_ret
                 exact ⟨ret_int HR2.out.symm, below_then HBW5.out hk9⟩
               | true =>
                 have Q4 : Hid (∀ Z, m.ok Z → ∀ (ao : Option Addr) (cp : Nat), RowN Z ao 4 (normS m.s.spans).length ((normS m.s.spans).flatMap Spn.cells) → Calls Tryz.prog 52 #[.slice m.sa m.s.spans.length m.sc, .slice ao (normS m.s.spans).length cp, .func (.func 54) #[] #[]] Z (RetBox Z (.bool true))) := by
                  show ∀ Z, _ → _
                  intro Z hZ ao cp h
                  rw [← q4]
                  exact S4.out Z hZ ao cp h
                 have HR2 : Hid (R = 0) := by show _ = _; rw [HR5.out, if_neg (by unfold orderP; rw [q1, q2, q4]; simp)]
                 clear q1 q2 q4
                 refine wp_region_noPanic ?_
                 refine wp_region_held_drew (S := (fun w' => w'.cell? ⟨w.heap.size, 3, none⟩ = some (.slice m.ra m.s.reads.length m.rc) ∧ w'.cell? ⟨w.heap.size, 4, none⟩ = some (.slice m.sa m.s.spans.length m.sc) ∧ w'.cell? ⟨w.heap.size, 5, none⟩ = some (.slice m.wa m.s.writes.length m.wc))) (by kernel_rfl) ?_ (fun hHeld0 => ?_)
                 · refine HKEEP.out _ ?_; (repeat (first | assumption | exact Below.refl _ _ | refine below_alloc ?_ _ | refine below_drewN ?_ _ | refine Below.drew ?_))
                 refine wu 0 rfl ?_
                 refine wu 1 rfl ?_
                 refine wy 2 rfl fun K hK => ?_
                 go_simp
                 go_at_call 51
                 refine (Q1.out _ (HM5.out.below (by (repeat (first | assumption | exact Below.refl _ _ | refine below_alloc ?_ _ | refine below_drewN ?_ _ | refine Below.drew ?_))))).mono ?_
                 rintro e w6 ⟨rfl, hb6⟩
                 have hk6 : Below w5.heap.size w5 w6 := below_then (by (repeat (first | assumption | exact Below.refl _ _ | refine below_alloc ?_ _ | refine below_drewN ?_ _ | refine Below.drew ?_))) hb6
                 clear hb6
                 go_wp2_with fail
                 refine hK.out _ _ ?_ (fun hHeld1 => ?_)
                 · refine HKEEP.out _ ?_; (repeat (first | assumption | exact Below.refl _ _ | refine below_alloc ?_ _ | refine below_drewN ?_ _ | refine Below.drew ?_))
                 clear hK K hHeld0
                 try simp only [Act.put, List.setIfInBounds_toArray, List.set]
                 refine wu 3 rfl ?_
                 refine wu 4 rfl ?_
                 refine wu 5 rfl ?_
                 refine wu 6 rfl ?_
                 refine wy 7 rfl fun K hK => ?_
                 go_simp
                 go_at_call 51
                 refine (Q2.out _ (HM5.out.below hk6)).mono ?_
                 rintro e w7 ⟨rfl, hb7⟩
                 have hk7 : Below w5.heap.size w5 w7 := below_then hk6 hb7
                 clear hb7
                 go_wp2_with fail
                 refine hK.out _ _ ?_ (fun hHeld2 => ?_)
                 · refine HKEEP.out _ ?_; (repeat (first | assumption | exact Below.refl _ _ | refine below_alloc ?_ _ | refine below_drewN ?_ _ | refine Below.drew ?_))
                 clear hK K hHeld1
                 try simp only [Act.put, List.setIfInBounds_toArray, List.set]
                 refine wu 8 rfl ?_
                 refine wu 9 rfl ?_
                 refine wu 10 rfl ?_
                 refine wu 11 rfl ?_
                 refine wu 12 rfl ?_
                 refine wu 13 rfl ?_
                 refine wu 14 rfl ?_
                 refine wy 15 rfl fun K hK => ?_
                 go_simp
                 go_at_call 53
                 refine (S3.out _ (HM5.out.below hk7)).mono ?_
                 rintro e w8 ⟨ao, nn, cp, rfl, hnn, hown8, hb8⟩
                 have hk8 : Below w5.heap.size w5 w8 := below_then hk7 hb8
                 subst hnn
                 have HR8 := Lib.hid (RowN.of_own hown8)
                 clear hb8 hown8
                 go_wp2_with fail
                 refine hK.out _ _ ?_ (fun hHeld3 => ?_)
                 · refine HKEEP.out _ ?_; (repeat (first | assumption | exact Below.refl _ _ | refine below_alloc ?_ _ | refine below_drewN ?_ _ | refine Below.drew ?_))
                 clear hK K hHeld2
                 try simp only [Act.put, List.setIfInBounds_toArray, List.set]
                 refine wy 16 rfl fun K hK => ?_
                 go_simp
                 go_at_call 52
                 refine (Q4.out _ (HM5.out.below hk8) _ _ HR8.out).mono ?_
                 rintro e w9 ⟨rfl, hb9⟩
                 have hk9 : Below w5.heap.size w5 w9 := below_then hk8 hb9
                 clear hb9
                 go_wp2_with fail
                 refine hK.out _ _ ?_ (fun hHeld4 => ?_)
                 · refine HKEEP.out _ ?_; (repeat (first | assumption | exact Below.refl _ _ | refine below_alloc ?_ _ | refine below_drewN ?_ _ | refine Below.drew ?_))
                 clear hK K hHeld3
                 try simp only [Act.put, List.setIfInBounds_toArray, List.set]
                 refine wu 17 rfl ?_
                 refine wu 18 rfl ?_
                 refine wu 19 rfl ?_
                 refine wpAnyH_done (by kernel_rfl) ?_ _
                 refine NoPanic.normal ?_
                 go_wp2_with fail
                 go_ret
                 exact ⟨ret_int HR2.out.symm, below_then HBW5.out hk9⟩
end Go.Proofs.YtpknmfmpiachkaaGreat
namespace Go.Proofs.YtpknmfmpiachkaaGreat
open Go.RowKit
def writesP (s : SubP) (key : Nat) : Bool := hasK key s.writes
def readsP (s : SubP) (key : Nat) : Bool := hasK key s.reads || coversS s.spans key
def meetsP (a b : SubP) : Bool := b.writes.any fun x => readsP a x
def SubM.args (m : SubM) : Value := .agg #[.int .i64 m.s.session, .int .i64 m.s.seq, .int .i64 m.s.snap, .slice m.ra m.s.reads.length m.rc, .slice m.sa m.s.spans.length m.sc, .slice m.wa m.s.writes.length m.wc]
set_option maxRecDepth 100000 in
set_option maxHeartbeats 1600000 in
theorem writes_any (m : SubM) (hr : m.s.Right) (key : Nat) (hkey : key < 18446744073709551616) (w : World) (hm : m.ok w) : Calls Tryz.prog 37 #[m.args, .float .f64 key] w (RetBox w (.bool (writesP m.s key))) := by
 have hlw := hr.lw
 have hc := fun Z (hZ : m.ok Z) => contains_any key hkey m.s.writes hZ.words.writes m.wa m.s.writes.length m.wc Z hZ.writes rfl (by omega)
 have HC := Lib.hid hc
 have HM := Lib.hid hm
 clear hc hm hr
 unfold SubM.args
 go_enter Tryz.func37, Tryz.ntmps37
 go_wp2_with fail
 refine (HC.out _ (HM.out.alloc _)).mono ?_
 rintro e w1 ⟨rfl, rfl⟩
 go_wp2_with fail
 go_ret
 exact ⟨rfl, below_alloc (Below.refl _ _) _⟩
set_option maxRecDepth 100000 in
set_option maxHeartbeats 1600000 in
theorem reads_any (m : SubM) (hr : m.s.Right) (key : Nat) (hkey : key < 18446744073709551616) (w : World) (hm : m.ok w) : Calls Tryz.prog 35 #[m.args, .float .f64 key] w (RetBox w (.bool (readsP m.s key))) := by
 have hlr := hr.lr
 have hls := hr.ls
 have hc := fun Z (hZ : m.ok Z) => contains_any key hkey m.s.reads hZ.words.reads m.ra m.s.reads.length m.rc Z hZ.reads rfl (by omega)
 have hv := fun Z (hZ : m.ok Z) => covers_any key hkey m.s.spans hZ.words.spans m.sa m.s.spans.length m.sc Z hZ.spans rfl (by omega)
 obtain ⟨R, hR⟩ : ∃ R, R = readsP m.s key := ⟨_, rfl⟩
 rw [← hR]
 unfold readsP at hR
 have HC := Lib.hid hc
 have HV := Lib.hid hv
 have HM := Lib.hid hm
 have HR := Lib.hid hR
 clear hc hv hm hr hR
 unfold SubM.args
 go_enter Tryz.func35, Tryz.ntmps35
 go_wp2_with fail
 refine (HC.out _ (HM.out.alloc _)).mono ?_
 rintro e w1 ⟨rfl, rfl⟩
 cases hk : hasK key m.s.reads with
 | true =>
   have HR2 : Hid (R = true) := by show _ = _; rw [HR.out, hk]; rfl
   clear hk
   go_wp2_with fail
   go_ret
   exact ⟨by rw [HR2.out]; rfl, below_alloc (Below.refl _ _) _⟩
 | false =>
   have HR2 : Hid (R = coversS m.s.spans key) := by show _ = _; rw [HR.out, hk]; rfl
   clear hk
   go_wp2_with fail
   refine (HV.out _ (HM.out.alloc _)).mono ?_
   rintro e w1 ⟨rfl, hb1⟩
   have HB1 := Lib.hid (below_then (below_alloc (Below.refl _ _) _) hb1)
   clear hb1
   go_wp2_with fail
   go_ret
   exact ⟨by rw [HR2.out]; rfl, HB1.out⟩
set_option maxRecDepth 100000 in
set_option maxHeartbeats 1600000 in
theorem meetsFn_any (m : SubM) (hr : m.s.Right) (key : Nat) (hkey : key < 18446744073709551616) (B : Nat) (w : World) (hm : m.ok w)
 (hB : w.heap[B]? = some (.cells #[.int .i64 m.s.session, .int .i64 m.s.seq, .int .i64 m.s.snap, .slice m.ra m.s.reads.length m.rc, .slice m.sa m.s.spans.length m.sc, .slice m.wa m.s.writes.length m.wc] 26 (0, 0))) :
 Calls Tryz.prog 103 #[.float .f64 key, .pointer (some ⟨B, 0, none⟩)] w (RetBox w (.bool (readsP m.s key))) := by
 have h := reads_any m hr key hkey w hm
 unfold SubM.args at h
 have H := Lib.hid h
 obtain ⟨c0, c1, c2, c3, c4, c5⟩ := six_cells hB
 clear h hr hm hB
 go_enter Tryz.func103, Tryz.ntmps103
 go_wp2_with fail
 refine H.out.mono ?_
 rintro e w1 ⟨rfl, hb1⟩
 have HB1 := Lib.hid hb1
 clear hb1 c0 c1 c2 c3 c4 c5
 go_wp2_with fail
 go_ret
 exact ⟨rfl, HB1.out⟩
set_option maxRecDepth 100000 in
set_option maxHeartbeats 1600000 in
theorem meets_any (m k : SubM) (hr : m.s.Right) (hk : k.s.Right) (w : World) (hm : m.ok w) (hkm : k.ok w) : Calls Tryz.prog 57 #[m.args, k.args] w (RetBox w (.bool (meetsP m.s k.s))) := by
 have hlw := hk.lw
 have eg : ∀ args w, (callFunc 103 args).run Tryz.prog w = .ok (.enter 103 args) w := enters_of Tryz.func103 (by kernel_rfl) rfl
 obtain ⟨W, hW⟩ : ∃ W, W = (w.alloc (.cells #[.int .i64 m.s.session, .int .i64 m.s.seq, .int .i64 m.s.snap, .slice m.ra m.s.reads.length m.rc, .slice m.sa m.s.spans.length m.sc, .slice m.wa m.s.writes.length m.wc] 26)).alloc (.cells #[.int .i64 k.s.session, .int .i64 k.s.seq, .int .i64 k.s.snap, .slice k.ra k.s.reads.length k.rc, .slice k.sa k.s.spans.length k.sc, .slice k.wa k.s.writes.length k.wc] 26) := ⟨_, rfl⟩
 have hA : W.heap[w.heap.size]? = some (.cells #[.int .i64 m.s.session, .int .i64 m.s.seq, .int .i64 m.s.snap, .slice m.ra m.s.reads.length m.rc, .slice m.sa m.s.spans.length m.sc, .slice m.wa m.s.writes.length m.wc] 26 (0, 0)) := hW ▸ alloc_keep (heap_alloc_new w _) _
 have hB : W.heap[w.heap.size + 1]? = some (.cells #[.int .i64 k.s.session, .int .i64 k.s.seq, .int .i64 k.s.snap, .slice k.ra k.s.reads.length k.rc, .slice k.sa k.s.spans.length k.sc, .slice k.wa k.s.writes.length k.wc] 26 (0, 0)) := hW ▸ alloc_new1 _ _ _
 have hbw : Below w.heap.size w W := hW ▸ below_alloc (below_alloc (Below.refl _ _) _) _
 have hc := containsF_any 103 #[.pointer (some ⟨w.heap.size, 0, none⟩)] (fun x => readsP m.s x) k.s.writes k.wa k.s.writes.length k.wc W (hkm.below hbw).writes rfl (by omega) eg (fun x hx Z hZ => meetsFn_any m hr x (hkm.words.writes x hx) w.heap.size Z ((hm.below hbw).below hZ) ((hZ.block _ (lt_of_block hA)).trans hA))
 have HC := Lib.hid hc
 have HW := Lib.hid hW
 have HBW := Lib.hid hbw
 obtain ⟨c0, c1, c2, c3, c4, c5⟩ := six_cells hB
 clear hc hW hA hB hbw eg hr hk hm hkm
 unfold SubM.args
 go_enter Tryz.func57, Tryz.ntmps57
 go_wp2_with fail
 rw [← HW.out]
 go_wp2_with fail
 refine HC.out.mono ?_
 rintro e w1 ⟨rfl, hb1⟩
 have HB1 := Lib.hid (below_then HBW.out hb1)
 clear hb1 c0 c1 c2 c3 c4 c5
 go_wp2_with fail
 go_ret
 exact ⟨rfl, HB1.out⟩
end Go.Proofs.YtpknmfmpiachkaaGreat
