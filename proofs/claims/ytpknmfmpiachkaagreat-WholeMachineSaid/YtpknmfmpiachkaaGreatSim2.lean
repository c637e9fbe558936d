/- What is forgotten makes nothing commit that would not: in plain words. -/
import Derived.Test.YtpknmfmpiachkaaGreatPush
namespace Go.Proofs.YtpknmfmpiachkaaGreat
open Go.RowKit
theorem KeyOk.feq {x y : Nat} (hx : KeyOk x) (hy : KeyOk y) (h : Flo.feq x y = true) : x = y := by
 unfold Flo.feq at h
 simp only [Bool.and_eq_true, decide_eq_true_eq] at h
 exact hx.eq hy h.2
theorem hasK_mem {key : Nat} (hk : KeyOk key) {ws : List Nat} (hw : ∀ x ∈ ws, KeyOk x) (h : hasK key ws = true) : key ∈ ws := by
 unfold hasK at h
 obtain ⟨x, hx, he⟩ := List.any_eq_true.1 h
 rw [hk.feq (hw x hx) he]
 exact hx
theorem beside_found (s : SubP) : ∀ (S : List RecV) (l : LookP),
 ((S.foldl (besideStep s) l).written = true → l.written = true ∨ ∃ r ∈ S, s.snap < r.num ∧ s.writes.any (fun x => writesP r.m.s x) = true) ∧
 ((S.foldl (besideStep s) l).out = true → l.out = true ∨ ∃ r ∈ S, s.snap < r.num ∧ meetsP s r.m.s = true ∧ r.out = true) ∧
 ((S.foldl (besideStep s) l).least = l.least ∨ ∃ r ∈ S, s.snap < r.num ∧ meetsP s r.m.s = true ∧ (S.foldl (besideStep s) l).least = r.num) ∧
 ((S.foldl (besideStep s) l).most = l.most ∨ ∃ r ∈ S, s.snap < r.num ∧ meetsP r.m.s s = true ∧ (S.foldl (besideStep s) l).most = r.num)
 | [], l => ⟨fun h => .inl h, fun h => .inl h, .inl rfl, .inl rfl⟩
 | r :: S, l => by
   obtain ⟨h1, h2, h3, h4⟩ := beside_found s S (besideStep s l r)
   simp only [List.foldl_cons]
   have hm : r ∈ r :: S := List.mem_cons_self ..
   have lift : ∀ {P : RecV → Prop}, (∃ q ∈ S, P q) → ∃ q ∈ r :: S, P q := fun ⟨q, hq, hp⟩ => ⟨q, List.mem_cons_of_mem _ hq, hp⟩
   by_cases hle : r.num ≤ s.snap
   · have e : besideStep s l r = l := by unfold besideStep; rw [if_pos hle]
     rw [e] at h1 h2 h3 h4 ⊢
     refine ⟨fun h => (h1 h).imp id lift, fun h => (h2 h).imp id lift, h3.imp id lift, h4.imp id lift⟩
   · have e : besideStep s l r = ⟨l.written || s.writes.any (fun x => writesP r.m.s x), l.out || (meetsP s r.m.s && r.out), if meetsP s r.m.s && decide (l.least = 0) then r.num else l.least, if meetsP r.m.s s then r.num else l.most⟩ := by unfold besideStep; rw [if_neg hle]
     rw [e] at h1 h2 h3 h4 ⊢
     simp only at h1 h2 h3 h4
     refine ⟨fun h => ?_, fun h => ?_, ?_, ?_⟩
     · rcases h1 h with h | h
       · rw [Bool.or_eq_true] at h
         rcases h with h | h
         · exact .inl h
         · exact .inr ⟨r, hm, by omega, h⟩
       · exact .inr (lift h)
     · rcases h2 h with h | h
       · rw [Bool.or_eq_true, Bool.and_eq_true] at h
         rcases h with h | h
         · exact .inl h
         · exact .inr ⟨r, hm, by omega, h.1, h.2⟩
       · exact .inr (lift h)
     · rcases h3 with h | h
       · rw [h]
         split
         · rename_i hc
           rw [Bool.and_eq_true] at hc
           exact .inr ⟨r, hm, by omega, hc.1, rfl⟩
         · exact .inl rfl
       · exact .inr (lift h)
     · rcases h4 with h | h
       · rw [h]
         split
         · rename_i hc
           exact .inr ⟨r, hm, by omega, hc, rfl⟩
         · exact .inl rfl
       · exact .inr (lift h)
structure Stricter (M L : LookP) : Prop where
 written : M.written = true → L.written = true
 out : M.out = true → L.out = true
 least : 0 < M.least → 0 < L.least ∧ L.least ≤ M.least
 most : 0 < M.most → M.most ≤ L.most
 pos : 0 ≤ M.least ∧ 0 ≤ L.least
theorem Stricter.danger {M L : LookP} (h : Stricter M L) (hd : dangerP M = true) : dangerP L = true := by
 unfold dangerP at hd ⊢
 simp only [Bool.or_eq_true, Bool.and_eq_true, decide_eq_true_eq] at hd ⊢
 rcases hd with hd | ⟨⟨h1, h2⟩, h3⟩
 · exact .inl (h.out hd)
 · obtain ⟨h4, h5⟩ := h.least h1
   have h6 := h.most h2
   exact .inr ⟨⟨h4, by omega⟩, by omega⟩
def Twin (r t : RecV) : Prop := r.num = t.num ∧ r.m.s = t.m.s ∧ (t.out = true → r.out = true)
theorem stricter_step {s : SubP} {M L : LookP} {r t : RecV} (h : Stricter M L) (hw : Twin r t) (hle : s.snap < r.num → L.least ≤ r.num) (hn : 0 < r.num) : Stricter (besideStep s M t) (besideStep s L r) := by
 obtain ⟨h1, h2, h3⟩ := hw
 obtain ⟨a, b, c, d, e⟩ := h
 have hn0 : 0 < t.num := h1 ▸ hn
 by_cases hs : r.num ≤ s.snap
 · have e1 : besideStep s L r = L := by unfold besideStep; rw [if_pos hs]
   have e2 : besideStep s M t = M := by unfold besideStep; rw [if_pos (by omega)]
   rw [e1, e2]
   exact ⟨a, b, c, d, e⟩
 · have hle := hle (by omega)
   unfold besideStep
   rw [if_neg hs, if_neg (show ¬ t.num ≤ s.snap by omega)]
   rw [h2, h1] at *
   refine ⟨fun h => ?_, fun h => ?_, ?_, ?_, ?_⟩
   · simp only [Bool.or_eq_true] at h ⊢
     exact h.imp a id
   · simp only [Bool.or_eq_true, Bool.and_eq_true] at h ⊢
     exact h.imp b fun h => ⟨h.1, h3 h.2⟩
   · simp only
     cases hm : meetsP s t.m.s with
     | false => simpa using c
     | true =>
       by_cases h0 : M.least = 0
       · by_cases h4 : L.least = 0
         · simp [h0, h4]
         · simp only [h0, h4, decide_true, decide_false, Bool.true_and, if_true, Bool.false_eq_true, if_false]
           omega
       · have := c (by omega)
         have h4 : ¬ L.least = 0 := by omega
         simp only [h0, h4, decide_false, Bool.and_false, Bool.false_eq_true, if_false]
         exact c
   · simp only
     split
     · exact fun _ => Int.le_refl _
     · exact d
   · simp only
     refine ⟨?_, ?_⟩
     · split <;> omega
     · split <;> omega
def Twins : List RecV → List RecV → Prop
 | [], [] => True
 | r :: R, t :: T => Twin r t ∧ Twins R T
 | _, _ => False
theorem stricter_fold {s : SubP} : ∀ (R T : List RecV) (M L : LookP), Twins R T → R.Pairwise (fun a b => a.num < b.num) → (∀ r ∈ R, 0 < r.num ∧ (s.snap < r.num → L.least ≤ r.num)) → Stricter M L → Stricter (T.foldl (besideStep s) M) (R.foldl (besideStep s) L)
 | [], [], _, _, _, _, _, hs => hs
 | [], _ :: _, _, _, h, _, _, _ => h.elim
 | _ :: _, [], _, _, h, _, _, _ => h.elim
 | r :: R, t :: T, M, L, h, hp, hl, hs => by
   obtain ⟨hw, ht⟩ := h
   rw [List.foldl_cons, List.foldl_cons]
   refine stricter_fold R T _ _ ht (List.pairwise_cons.1 hp).2 (fun q hq => ?_) (stricter_step hs hw (hl r (List.mem_cons_self ..)).2 (hl r (List.mem_cons_self ..)).1)
   have h1 := hl q (List.mem_cons_of_mem _ hq)
   have h2 := (List.pairwise_cons.1 hp).1 q hq
   refine ⟨h1.1, fun hsn => ?_⟩
   unfold besideStep
   split
   · exact h1.2 hsn
   · simp only
     split
     · omega
     · exact h1.2 hsn
structure Known (c : CertV) (t : RecV) : Prop where
 wrote : ∀ x ∈ t.m.s.writes, Says c.wrote x t.num
 out : t.out = true → ∀ x ∈ t.m.s.writes, Says c.wroteOut x t.num
 reads : ∀ x ∈ t.m.s.reads, Says c.read x t.num
 spans : ∀ x ∈ t.m.s.spans, SaysP c.spans x t.num
theorem overK_ge (L : List VI) : ∀ (ks : List Nat) (m : Int), m ≤ ks.foldl (overK L) m
 | [], _ => Int.le_refl _
 | x :: r, m => by
   rw [List.foldl_cons]
   have h1 := overK_ge L r (overK L m x)
   have h2 : m ≤ overK L m x := by unfold overK; omega
   omega
theorem overK_mem (L : List VI) : ∀ (ks : List Nat) (m : Int) (x : Nat), x ∈ ks → vAt L x ≤ ks.foldl (overK L) m
 | [], _, _, h => absurd h List.not_mem_nil
 | y :: r, m, x, h => by
   rw [List.foldl_cons]
   rcases List.mem_cons.1 h with rfl | h
   · have h1 := overK_ge L r (overK L m x)
     have h2 : vAt L x ≤ overK L m x := by unfold overK; omega
     omega
   · exact overK_mem L r _ x h
theorem overS_ge (L : List VI) : ∀ (ks : List Spn) (m : Int), m ≤ ks.foldl (overS L) m
 | [], _ => Int.le_refl _
 | x :: r, m => by
   rw [List.foldl_cons]
   have h1 := overS_ge L r (overS L m x)
   have h2 : m ≤ overS L m x := by unfold overS; omega
   omega
theorem overS_mem (L : List VI) : ∀ (ks : List Spn) (m : Int) (x : Spn), x ∈ ks → vOver L x ≤ ks.foldl (overS L) m
 | [], _, _, h => absurd h List.not_mem_nil
 | y :: r, m, x, h => by
   rw [List.foldl_cons]
   rcases List.mem_cons.1 h with rfl | h
   · have h1 := overS_ge L r (overS L m x)
     have h2 : vOver L x ≤ overS L m x := by unfold overS; omega
     omega
   · exact overS_mem L r _ x h
theorem over_reads {L : List VI} (hL : SortedV L) {s : SubP} (hs : s.Right) {x : Nat} (hx : KeyOk x) {n : Int} (hr : readsP s x = true) (hy : Says L x n) : n ≤ overP L s := by
 unfold readsP at hr
 unfold overP
 rw [Bool.or_eq_true] at hr
 rcases hr with hr | hr
 · have hm := hasK_mem hx hs.reads hr
   have h1 := vAt_says hL hy
   have h2 := overK_mem L s.reads 0 x hm
   have h3 := overS_ge L s.spans (s.reads.foldl (overK L) 0)
   omega
 · unfold coversS at hr
   obtain ⟨p, hp, hh⟩ := List.any_eq_true.1 hr
   have h1 := vOver_says hL (hs.spans p hp) hh hy
   have h2 := overS_mem L s.spans (s.reads.foldl (overK L) 0) p hp
   omega
theorem mostK_ge (c : CertV) : ∀ (ks : List Nat) (m : Int), m ≤ ks.foldl (mostK c) m
 | [], _ => Int.le_refl _
 | x :: r, m => by
   rw [List.foldl_cons]
   have h1 := mostK_ge c r (mostK c m x)
   have h2 : m ≤ mostK c m x := by unfold mostK; omega
   omega
theorem mostK_mem (c : CertV) : ∀ (ks : List Nat) (m : Int) (x : Nat), x ∈ ks → vAt c.read x ≤ ks.foldl (mostK c) m ∧ pAtL x c.spans 0 ≤ ks.foldl (mostK c) m
 | [], _, _, h => absurd h List.not_mem_nil
 | y :: r, m, x, h => by
   rw [List.foldl_cons]
   rcases List.mem_cons.1 h with rfl | h
   · have h1 := mostK_ge c r (mostK c m x)
     have h2 : vAt c.read x ≤ mostK c m x ∧ pAtL x c.spans 0 ≤ mostK c m x := by unfold mostK; omega
     omega
   · exact mostK_mem c r _ x h
theorem writtenK_ge (c : CertV) (s : SubP) : ∀ (ks : List Nat) (b : Bool), b = true → ks.foldl (writtenK c s) b = true
 | [], _, h => h
 | x :: r, b, h => by
   rw [List.foldl_cons]
   exact writtenK_ge c s r _ (by unfold writtenK; rw [h]; rfl)
theorem writtenK_mem (c : CertV) (s : SubP) : ∀ (ks : List Nat) (b : Bool) (x : Nat), x ∈ ks → s.snap < vAt c.wrote x → ks.foldl (writtenK c s) b = true
 | [], _, _, h, _ => absurd h List.not_mem_nil
 | y :: r, b, x, h, hv => by
   rw [List.foldl_cons]
   rcases List.mem_cons.1 h with rfl | h
   · exact writtenK_ge c s r _ (by unfold writtenK; rw [decide_eq_true hv, Bool.or_true])
   · exact writtenK_mem c s r _ x h hv
def zeroL : LookP := ⟨false, false, 0, 0⟩
theorem summary_strict {c : CertV} (hc : c.Ok) {s : SubP} (hs : s.Right) {S : List RecV} (hS : ∀ t ∈ S, t.m.s.Right ∧ 0 < t.num ∧ (t.num ≤ s.snap ∨ Known c t)) : Stricter (S.foldl (besideStep s) zeroL) (summaryP c s) := by
 obtain ⟨h1, h2, h3, h4⟩ := beside_found s S zeroL
 have hsn := hs.snap.1
 have over1 : ∀ t ∈ S, s.snap < t.num → meetsP s t.m.s = true → s.snap < overP c.wrote s ∧ (t.out = true → s.snap < overP c.wroteOut s) := fun t ht hn hm => by
  obtain ⟨hr, _, hk | hk⟩ := hS t ht
  · omega
  · unfold meetsP at hm
    obtain ⟨x, hx, hrd⟩ := List.any_eq_true.1 hm
    have a1 := over_reads hc.wrote hs (hr.writes x hx) hrd (hk.wrote x hx)
    refine ⟨by omega, fun ho => ?_⟩
    have a2 := over_reads hc.wroteOut hs (hr.writes x hx) hrd (hk.out ho x hx)
    omega
 refine ⟨fun h => ?_, fun h => ?_, fun h => ?_, fun h => ?_, ?_⟩
 · rcases h1 h with h | ⟨t, ht, hn, hw⟩
   · cases h
   · obtain ⟨hr, _, hk | hk⟩ := hS t ht
     · omega
     · obtain ⟨x, hx, hwx⟩ := List.any_eq_true.1 hw
       have hm : x ∈ t.m.s.writes := hasK_mem (hs.writes x hx) hr.writes hwx
       have := vAt_says hc.wrote (hk.wrote x hm)
       exact writtenK_mem c s s.writes false x hx (by omega)
 · rcases h2 h with h | ⟨t, ht, hn, hm, ho⟩
   · cases h
   · show decide (s.snap < overP c.wroteOut s) = true
     exact decide_eq_true ((over1 t ht hn hm).2 ho)
 · rcases h3 with h' | ⟨t, ht, hn, hm, he⟩
   · rw [h'] at h; simp [zeroL] at h
   · have := (over1 t ht hn hm).1
     show 0 < (if s.snap < overP c.wrote s then s.snap + 1 else 0) ∧ (if s.snap < overP c.wrote s then s.snap + 1 else 0) ≤ _
     rw [if_pos this, he]
     omega
 · rcases h4 with h' | ⟨t, ht, hn, hm, he⟩
   · rw [h'] at h; simp [zeroL] at h
   · obtain ⟨hr, _, hk | hk⟩ := hS t ht
     · omega
     · unfold meetsP at hm
       obtain ⟨x, hx, hrd⟩ := List.any_eq_true.1 hm
       have hmx := mostK_mem c s.writes 0 x hx
       have hge : t.num ≤ s.writes.foldl (mostK c) 0 := by
        unfold readsP at hrd
        rw [Bool.or_eq_true] at hrd
        rcases hrd with hrd | hrd
        · have := vAt_says hc.read (hk.reads x (hasK_mem (hs.writes x hx) hr.reads hrd))
          omega
        · unfold coversS at hrd
          obtain ⟨p, hp, hh⟩ := List.any_eq_true.1 hrd
          obtain ⟨v, hv, hvs, hvn⟩ := hk.spans p hp
          have := pAtL_says x c.spans 0 hc.spans v hv (by rw [hvs]; exact hh)
          omega
       rw [he]
       show t.num ≤ (if s.writes.foldl (mostK c) 0 ≤ s.snap then 0 else s.writes.foldl (mostK c) 0)
       rw [if_neg (by omega)]
       exact hge
 · refine ⟨?_, ?_⟩
   · rcases h3 with h' | ⟨t, ht, hn, _, he⟩
     · rw [h']; simp [zeroL]
     · rw [he]; omega
   · show 0 ≤ (if s.snap < overP c.wrote s then s.snap + 1 else 0)
     split <;> omega
end Go.Proofs.YtpknmfmpiachkaaGreat
namespace Go.Proofs.YtpknmfmpiachkaaGreat
open Go.RowKit
theorem vDone_keeps {old : Nat} {L : List VI} {key : Nat} {num : Int} {k : Nat} {n : Int} (h : Says L k n) : Says (vDone old L key num) k n := by
 unfold vDone; split
 · exact h
 · exact vPut_keeps num h
theorem vDone_says {old : Nat} {L : List VI} (hL : SortedV L) {key : Nat} (hk : KeyOk key) {num : Int} (hf : vFull old L key = false) : Says (vDone old L key num) key num := by
 unfold vDone; rw [hf]
 exact vPut_says hL hk num
theorem pDone_keeps {old : Nat} {L : List PI} {s : Spn} {num : Int} {k : Spn} {n : Int} (h : SaysP L k n) : SaysP (pDone old L s num) k n := by
 unfold pDone; split
 · exact h
 · exact pPut_keeps num h
theorem pDone_says {old : Nat} {L : List PI} (hL : SortedP L) {s : Spn} (hs : GoodS s) {num : Int} (hf : pFull old L s = false) : SaysP (pDone old L s num) s num := by
 unfold pDone; rw [hf]
 exact pPut_says hL hs num
theorem step1_bad {old : Nat} {num : Int} {out : Bool} : ∀ (ks : List Nat) (s : List VI × List VI × Bool), (ks.foldl (step1 old num out) s).2.2 = false → s.2.2 = false
 | [], _, h => h
 | x :: r, s, h => by
   have := step1_bad r _ h
   unfold step1 at this
   simp only [Bool.or_eq_false_iff] at this
   exact this.1.1
theorem step1_keeps {old : Nat} {num : Int} {out : Bool} : ∀ (ks : List Nat) (s : List VI × List VI × Bool), (∀ k n, Says s.1 k n → Says (ks.foldl (step1 old num out) s).1 k n) ∧ (∀ k n, Says s.2.1 k n → Says (ks.foldl (step1 old num out) s).2.1 k n)
 | [], _ => ⟨fun _ _ h => h, fun _ _ h => h⟩
 | x :: r, s => by
   obtain ⟨h1, h2⟩ := step1_keeps (old := old) (num := num) (out := out) r (step1 old num out s x)
   refine ⟨fun k n h => h1 k n (vDone_keeps h), fun k n h => h2 k n ?_⟩
   show Says (if out then vDone old s.2.1 x num else s.2.1) k n
   split
   · exact vDone_keeps h
   · exact h
theorem step1_says {old : Nat} {num : Int} {out : Bool} : ∀ (ks : List Nat) (s : List VI × List VI × Bool), SortedV s.1 → SortedV s.2.1 → (∀ x ∈ ks, KeyOk x) → (ks.foldl (step1 old num out) s).2.2 = false → ∀ x ∈ ks, Says (ks.foldl (step1 old num out) s).1 x num ∧ (out = true → Says (ks.foldl (step1 old num out) s).2.1 x num)
 | [], _, _, _, _, _ => fun x hx => absurd hx List.not_mem_nil
 | y :: r, s, h1, h2, hk, hb => fun x hx => by
   have hy := hk y (List.mem_cons_self ..)
   have hb0 := step1_bad r _ hb
   unfold step1 at hb0
   simp only [Bool.or_eq_false_iff, Bool.and_eq_false_iff] at hb0
   rw [List.foldl_cons]
   rcases List.mem_cons.1 hx with rfl | hx
   · obtain ⟨k1, k2⟩ := step1_keeps (old := old) (num := num) (out := out) r (step1 old num out s x)
     refine ⟨k1 _ _ (vDone_says h1 hy hb0.1.2), fun ho => k2 _ _ ?_⟩
     show Says (if out then vDone old s.2.1 x num else s.2.1) x num
     rw [if_pos ho]
     rcases hb0.2 with h | h
     · rw [ho] at h; cases h
     · exact vDone_says h2 hy h
   · refine step1_says r _ (vDone_sorted h1 hy num) ?_ (fun z hz => hk z (List.mem_cons_of_mem _ hz)) hb x hx
     show SortedV (if out then vDone old s.2.1 y num else s.2.1)
     split
     · exact vDone_sorted h2 hy num
     · exact h2
theorem step2_bad {old : Nat} {num : Int} : ∀ (ks : List Nat) (s : List VI × Bool), (ks.foldl (step2 old num) s).2 = false → s.2 = false
 | [], _, h => h
 | x :: r, s, h => by
   have := step2_bad r _ h
   unfold step2 at this
   simp only [Bool.or_eq_false_iff] at this
   exact this.1
theorem step2_keeps {old : Nat} {num : Int} : ∀ (ks : List Nat) (s : List VI × Bool) (k : Nat) (n : Int), Says s.1 k n → Says (ks.foldl (step2 old num) s).1 k n
 | [], _, _, _, h => h
 | _ :: r, _, k, n, h => step2_keeps r _ k n (vDone_keeps h)
theorem step2_says {old : Nat} {num : Int} : ∀ (ks : List Nat) (s : List VI × Bool), SortedV s.1 → (∀ x ∈ ks, KeyOk x) → (ks.foldl (step2 old num) s).2 = false → ∀ x ∈ ks, Says (ks.foldl (step2 old num) s).1 x num
 | [], _, _, _, _ => fun x hx => absurd hx List.not_mem_nil
 | y :: r, s, h1, hk, hb => fun x hx => by
   have hy := hk y (List.mem_cons_self ..)
   have hb0 := step2_bad r _ hb
   unfold step2 at hb0
   simp only [Bool.or_eq_false_iff] at hb0
   rw [List.foldl_cons]
   rcases List.mem_cons.1 hx with rfl | hx
   · exact step2_keeps r _ _ _ (vDone_says h1 hy hb0.2)
   · exact step2_says r _ (vDone_sorted h1 hy num) (fun z hz => hk z (List.mem_cons_of_mem _ hz)) hb x hx
theorem step3_bad {old : Nat} {num : Int} : ∀ (ks : List Spn) (s : List PI × Bool), (ks.foldl (step3 old num) s).2 = false → s.2 = false
 | [], _, h => h
 | x :: r, s, h => by
   have := step3_bad r _ h
   unfold step3 at this
   simp only [Bool.or_eq_false_iff] at this
   exact this.1
theorem step3_keeps {old : Nat} {num : Int} : ∀ (ks : List Spn) (s : List PI × Bool) (k : Spn) (n : Int), SaysP s.1 k n → SaysP (ks.foldl (step3 old num) s).1 k n
 | [], _, _, _, h => h
 | _ :: r, _, k, n, h => step3_keeps r _ k n (pDone_keeps h)
theorem step3_says {old : Nat} {num : Int} : ∀ (ks : List Spn) (s : List PI × Bool), SortedP s.1 → (∀ x ∈ ks, GoodS x) → (ks.foldl (step3 old num) s).2 = false → ∀ x ∈ ks, SaysP (ks.foldl (step3 old num) s).1 x num
 | [], _, _, _, _ => fun x hx => absurd hx List.not_mem_nil
 | y :: r, s, h1, hk, hb => fun x hx => by
   have hy := hk y (List.mem_cons_self ..)
   have hb0 := step3_bad r _ hb
   unfold step3 at hb0
   simp only [Bool.or_eq_false_iff] at hb0
   rw [List.foldl_cons]
   rcases List.mem_cons.1 hx with rfl | hx
   · exact step3_keeps r _ _ _ (pDone_says h1 hy hb0.2)
   · exact step3_says r _ (pDone_sorted h1 hy num) (fun z hz => hk z (List.mem_cons_of_mem _ hz)) hb x hx
theorem sumP_known {c : CertV} (h1 : SortedV c.wrote) (h2 : SortedV c.wroteOut) (h3 : SortedV c.read) (h4 : SortedP c.spans) {r : RecV} (hr : r.m.s.Right) :
 (sumP c r).horizon = r.num ∨ ((sumP c r).horizon = c.horizon ∧ (∀ t, Known c t → Known (sumP c r) t) ∧ (∀ t, Twin r t → Known (sumP c r) t)) := by
 unfold sumP
 split
 · exact .inl rfl
 · rename_i hb
   have hb3 : (sum3 c r).2 = false := by simpa using hb
   unfold sum3 at hb3
   have hb2 := step3_bad _ _ hb3
   simp only at hb2
   unfold sum2 at hb2
   have hb1 := step2_bad _ _ hb2
   simp only at hb1
   unfold sum1 at hb1
   refine .inr ⟨rfl, fun t ht => ⟨fun x hx => ?_, fun ho x hx => ?_, fun x hx => ?_, fun x hx => ?_⟩, fun t ht => ?_⟩
   · exact (step1_keeps (old := c.old) (num := r.num) (out := r.out) r.m.s.writes (c.wrote, c.wroteOut, false)).1 _ _ (ht.wrote x hx)
   · exact (step1_keeps (old := c.old) (num := r.num) (out := r.out) r.m.s.writes (c.wrote, c.wroteOut, false)).2 _ _ (ht.out ho x hx)
   · exact step2_keeps r.m.s.reads (c.read, (sum1 c r).2.2) _ _ (ht.reads x hx)
   · exact step3_keeps r.m.s.spans (c.spans, (sum2 c r).2) _ _ (ht.spans x hx)
   · obtain ⟨e1, e2, e3⟩ := ht
     have a1 := step1_says r.m.s.writes (c.wrote, c.wroteOut, false) h1 h2 hr.writes hb1
     have a2 := step2_says r.m.s.reads (c.read, (sum1 c r).2.2) h3 hr.reads hb2
     have a3 := step3_says r.m.s.spans (c.spans, (sum2 c r).2) h4 hr.spans hb3
     refine ⟨?_, ?_, ?_, ?_⟩
     · rw [← e1, ← e2]; exact fun x hx => (a1 x hx).1
     · intro ho; rw [← e1, ← e2]; exact fun x hx => (a1 x hx).2 (e3 ho)
     · rw [← e1, ← e2]; exact a2
     · rw [← e1, ← e2]; exact a3
theorem vAt_nil (x : Nat) : vAt [] x = 0 := rfl
theorem vOver_nil (s : Spn) : vOver [] s = 0 := by
 unfold vOver
 rw [List.drop_nil]
 show (if _ then (0 : Int) else 0) = 0
 split <;> rfl
theorem overP_nil (s : SubP) : overP [] s = 0 := by
 unfold overP
 have h1 : ∀ (ks : List Nat), ks.foldl (overK []) 0 = 0 := fun ks => by
  induction ks with
  | nil => rfl
  | cons x r ih => rw [List.foldl_cons]; exact ih
 have h2 : ∀ (ks : List Spn), ks.foldl (overS []) 0 = 0 := fun ks => by
  induction ks with
  | nil => rfl
  | cons x r ih =>
    rw [List.foldl_cons]
    have : overS [] 0 x = 0 := by unfold overS; rw [vOver_nil]; rfl
    rw [this]
    exact ih
 rw [h1, h2]
theorem summary_nil {c : CertV} (h1 : c.wrote = []) (h2 : c.wroteOut = []) (h3 : c.read = []) (h4 : c.spans = []) {s : SubP} (hs : 0 ≤ s.snap) : summaryP c s = zeroL := by
 have e1 : ∀ (ks : List Nat), ks.foldl (writtenK c s) false = false := fun ks => by
  induction ks with
  | nil => rfl
  | cons x r ih =>
    rw [List.foldl_cons]
    have : writtenK c s false x = false := by unfold writtenK; rw [h1, vAt_nil, decide_eq_false (by omega)]; rfl
    rw [this]
    exact ih
 have e2 : ∀ (ks : List Nat), ks.foldl (mostK c) 0 = 0 := fun ks => by
  induction ks with
  | nil => rfl
  | cons x r ih =>
    rw [List.foldl_cons]
    have : mostK c 0 x = 0 := by unfold mostK; rw [h3, h4, vAt_nil]; rfl
    rw [this]
    exact ih
 unfold summaryP zeroL
 rw [e1, e2, h1, h2, overP_nil, decide_eq_false (by omega), if_neg (by omega), if_pos hs]
structure Sim0 (less more : CertV) : Prop where
 lok : less.Ok
 right : ∀ t ∈ more.recs, t.m.s.Right
 count : less.count = more.count
 hor : more.horizon = 0
 t1 : more.wrote = []
 t2 : more.wroteOut = []
 t3 : more.read = []
 t4 : more.spans = []
 recs : ∃ S T, more.recs = S ++ T ∧ Twins less.recs T ∧ ∀ t ∈ S, t.num ≤ less.horizon ∨ Known less t
 nums : ∀ (i : Nat) t, more.recs[i]? = some t → t.num = (i : Int) + 1
 len : (more.recs.length : Int) = more.count
structure Sim (less more : CertV) : Prop where
 lok : less.Ok
 mok : more.Ok
 count : less.count = more.count
 hor : more.horizon = 0
 t1 : more.wrote = []
 t2 : more.wroteOut = []
 t3 : more.read = []
 t4 : more.spans = []
 keep : more.keep = 32
 recs : ∃ S T, more.recs = S ++ T ∧ Twins less.recs T ∧ ∀ t ∈ S, t.num ≤ less.horizon ∨ Known less t
 nums : ∀ (i : Nat) t, more.recs[i]? = some t → t.num = (i : Int) + 1
 len : (more.recs.length : Int) = more.count
theorem Sim.to0 {less more : CertV} (h : Sim less more) : Sim0 less more := ⟨h.lok, h.mok.right, h.count, h.hor, h.t1, h.t2, h.t3, h.t4, h.recs, h.nums, h.len⟩
theorem Sim0.pairs {less more : CertV} (h : Sim0 less more) : more.recs.Pairwise fun a b => a.num < b.num := by
 rw [List.pairwise_iff_getElem]
 intro i j hi hj hij
 have h1 := h.nums i _ (List.getElem?_eq_getElem hi)
 have h2 := h.nums j _ (List.getElem?_eq_getElem hj)
 omega
theorem twins_mem : ∀ {R T : List RecV}, Twins R T → ∀ r ∈ R, ∃ t ∈ T, r.num = t.num
 | [], [], _, r, hr => absurd hr List.not_mem_nil
 | [], _ :: _, h, _, _ => h.elim
 | _ :: _, [], h, _, _ => h.elim
 | r :: R, t :: T, h, q, hq => by
   rcases List.mem_cons.1 hq with rfl | hq
   · exact ⟨t, List.mem_cons_self .., h.1.1⟩
   · obtain ⟨t', h1, h2⟩ := twins_mem h.2 q hq
     exact ⟨t', List.mem_cons_of_mem _ h1, h2⟩
theorem twins_pairs : ∀ {R T : List RecV}, Twins R T → T.Pairwise (fun a b => a.num < b.num) → R.Pairwise fun a b => a.num < b.num
 | [], _, _, _ => .nil
 | _ :: _, [], h, _ => h.elim
 | r :: R, t :: T, h, hp => by
   rw [List.pairwise_cons] at hp ⊢
   refine ⟨fun q hq => ?_, twins_pairs h.2 hp.2⟩
   obtain ⟨t', h1, h2⟩ := twins_mem h.2 q hq
   have h3 := h.1.1
   have := hp.1 t' h1
   omega
theorem twins_snoc : ∀ {R T : List RecV} {r t : RecV}, Twins R T → Twin r t → Twins (R ++ [r]) (T ++ [t])
 | [], [], _, _, _, h => ⟨h, trivial⟩
 | [], _ :: _, _, _, h, _ => h.elim
 | _ :: _, [], _, _, h, _ => h.elim
 | _ :: _, _ :: _, _, _, h, k => ⟨h.1, twins_snoc h.2 k⟩
theorem Sim0.strict {less more : CertV} (h : Sim0 less more) {s : SubP} (hs : s.Right) (hhor : less.horizon ≤ s.snap) : Stricter (besideP more s) (besideP less s) := by
 obtain ⟨S, T, hr, ht, hk⟩ := h.recs
 have hp := h.pairs
 unfold besideP
 rw [hr, List.foldl_append, summary_nil h.t1 h.t2 h.t3 h.t4 hs.snap.1]
 rw [hr, List.pairwise_append] at hp
 refine stricter_fold less.recs T _ _ ht (twins_pairs ht hp.2.1) (fun r hrm => ?_) (summary_strict h.lok hs fun t htm => ?_)
 · have h1 := h.lok.num r hrm
   refine ⟨by omega, fun hsn => ?_⟩
   show (if s.snap < overP less.wrote s then s.snap + 1 else 0) ≤ r.num
   split <;> omega
 · have hm : t ∈ more.recs := by rw [hr]; exact List.mem_append_left _ htm
   have h0 : 0 < t.num := by
    obtain ⟨i, hi⟩ := List.mem_iff_getElem?.1 hm
    have := h.nums i t hi
    omega
   refine ⟨h.right t hm, h0, ?_⟩
   rcases hk t htm with h1 | h1
   · exact .inl (by omega)
   · exact .inr h1
theorem Sim0.commit {less more less' : CertV} (h : Sim0 less more) {s : SubP} (hw : s.Words) {n1 : Int} (h1 : Step less s 0 n1 less') (m2 : SubM) (hm2 : m2.s = s) : n1 = more.count + 1 ∧ Sim0 less' (moreP more m2 (decide (0 < (besideP more s).least))) := by
 have hlok := h1.ok h.lok hw
 obtain ⟨hr1, ⟨hx, _⟩ | ⟨_, hn1, m1, hm1, hl'⟩⟩ := h1
 · exact absurd rfl hx
 obtain ⟨hr, _, _, hhor, _, _⟩ := refuse_right hw hr1.symm
 have hst := h.strict hr hhor
 obtain ⟨S, T, hrs, ht, hk⟩ := h.recs
 have hcount := h.count
 have hnum12 : n1 = more.count + 1 := by rw [hn1, hcount]
 obtain ⟨more', hmore⟩ : ∃ more', more' = moreP more m2 (decide (0 < (besideP more s).least)) := ⟨_, rfl⟩
 rw [← hmore]
 obtain ⟨t, hte⟩ : ∃ t : RecV, t = ⟨more.count + 1, m2, decide (0 < (besideP more s).least)⟩ := ⟨_, rfl⟩
 obtain ⟨r, hre⟩ : ∃ r : RecV, r = ⟨less.count + 1, m1, decide (0 < (besideP less s).least)⟩ := ⟨_, rfl⟩
 have hmrecs : more'.recs = S ++ (T ++ [t]) := by rw [hmore, hte, ← List.append_assoc, ← hrs]; rfl
 have htw : Twin r t := by
  rw [hre, hte]
  refine ⟨by simp only; omega, by simp only; rw [hm1, hm2], fun ho => ?_⟩
  simp only at ho ⊢
  exact decide_eq_true (hst.least (of_decide_eq_true ho)).1
 have htws : Twins (less.recs ++ [r]) (T ++ [t]) := twins_snoc ht htw
 have hnums : ∀ (i : Nat) q, more'.recs[i]? = some q → q.num = (i : Int) + 1 := fun i q hq => by
  rw [hmrecs, ← List.append_assoc, ← hrs] at hq
  rw [List.getElem?_append] at hq
  split at hq
  · exact h.nums i q hq
  · rename_i hge
    have hi : i - more.recs.length = 0 := by
     have := (List.getElem?_eq_some_iff.1 hq).1
     rw [List.length_singleton] at this
     omega
    rw [hi, List.getElem?_cons_zero, Option.some.injEq] at hq
    have hl := h.len
    rw [← hq, hte]
    simp only
    omega
 have hmc : more'.count = more.count + 1 := by rw [hmore]; rfl
 have hml : (more'.recs.length : Int) = more'.count := by
  rw [hmc, ← h.len, hmrecs, ← List.append_assoc, ← hrs, List.length_append, List.length_singleton]
  omega
 have hright : ∀ q ∈ more'.recs, q.m.s.Right := fun q hq => by
  rw [hmrecs, ← List.append_assoc, ← hrs] at hq
  rcases List.mem_append.1 hq with hq | hq
  · exact h.right q hq
  · rw [List.mem_singleton.1 hq, hte]
    simp only
    rw [hm2]
    exact hr
 have hbase : ∀ (S' T' : List RecV), more'.recs = S' ++ T' → less'.count = less.count + 1 → Twins less'.recs T' → (∀ t ∈ S', t.num ≤ less'.horizon ∨ Known less' t) → Sim0 less' more' := fun S' T' e1 e2 e3 e4 =>
  ⟨hlok, hright, by rw [e2, hmc, hcount], by rw [hmore]; exact h.hor, by rw [hmore]; exact h.t1, by rw [hmore]; exact h.t2, by rw [hmore]; exact h.t3, by rw [hmore]; exact h.t4, ⟨S', T', e1, e3, e4⟩, hnums, hml⟩
 refine ⟨hnum12, ?_⟩
 obtain ⟨c1, hc1⟩ : ∃ c1, c1 = moreP less m1 (decide (0 < (besideP less s).least)) := ⟨_, rfl⟩
 have hc1r : c1.recs = less.recs ++ [r] := by rw [hc1, hre]; rfl
 have hl2 : less' = lessP c1 := by rw [hl', hc1]; rfl
 by_cases hgt : c1.keep < c1.recs.length
 · cases hrr : c1.recs with
   | nil => rw [hc1r] at hrr; simp at hrr
   | cons r0 rest =>
     have hl3 : less' = { sumP c1 r0 with recs := rest } := by rw [hl2]; unfold lessP; rw [if_pos hgt, hrr]
     rw [← hc1r, hrr] at htws
     cases hTT : T ++ [t] with
     | nil => simp at hTT
     | cons t0 Tr =>
       rw [hTT] at htws hmrecs
       have hr0 : r0.m.s.Right := by
        have hmem : r0 ∈ less.recs ++ [r] := by rw [← hc1r, hrr]; exact List.mem_cons_self ..
        rcases List.mem_append.1 hmem with h0 | h0
        · exact h.lok.right r0 h0
        · rw [List.mem_singleton.1 h0, hre]; simp only; rw [hm1]; exact hr
       have hs1 : SortedV c1.wrote ∧ SortedV c1.wroteOut ∧ SortedV c1.read ∧ SortedP c1.spans := by rw [hc1]; exact ⟨h.lok.wrote, h.lok.wroteOut, h.lok.read, h.lok.spans⟩
       have hkn := sumP_known hs1.1 hs1.2.1 hs1.2.2.1 hs1.2.2.2 hr0
       have hc1h : c1.horizon = less.horizon := by rw [hc1]; rfl
       have hc1k : ∀ t, Known less t → Known c1 t := fun t ht => by rw [hc1]; exact ⟨ht.wrote, ht.out, ht.reads, ht.spans⟩
       refine hbase (S ++ [t0]) Tr (by rw [hmrecs]; simp) ?_ (by rw [hl3]; exact htws.2) (fun q hq => ?_)
       · rw [hl3]
         show (sumP c1 r0).count = _
         rw [(sumP_keep c1 r0).2.2.2.1, hc1]
         rfl
       · have hto : ∀ t, Known (sumP c1 r0) t → Known less' t := fun t ht => by rw [hl3]; exact ⟨ht.wrote, ht.out, ht.reads, ht.spans⟩
         have hh' : less'.horizon = (sumP c1 r0).horizon := by rw [hl3]
         rcases hkn with hk1 | ⟨hk1, hk2, hk3⟩
         · refine .inl ?_
           rw [hh', hk1, htws.1.1]
           rcases List.mem_append.1 hq with hq | hq
           · obtain ⟨i, hi⟩ := List.mem_iff_getElem?.1 hq
             have hil := (List.getElem?_eq_some_iff.1 hi).1
             have e1 := hnums i q (by rw [hmrecs, List.getElem?_append_left hil]; exact hi)
             have e2 := hnums S.length t0 (by rw [hmrecs, List.getElem?_append_right (Nat.le_refl _), Nat.sub_self]; rfl)
             omega
           · rw [List.mem_singleton.1 hq]
             exact Int.le_refl _
         · rcases List.mem_append.1 hq with hq | hq
           · rcases hk q hq with h0 | h0
             · exact .inl (by rw [hh', hk1, hc1h]; exact h0)
             · exact .inr (hto q (hk2 q (hc1k q h0)))
           · rw [List.mem_singleton.1 hq]
             exact .inr (hto t0 (hk3 t0 htws.1))
 · have hl3 : less' = c1 := by rw [hl2]; unfold lessP; rw [if_neg hgt]
   refine hbase S (T ++ [t]) hmrecs (by rw [hl3, hc1]; rfl) (by rw [hl3, hc1r]; exact htws) (fun q hq => ?_)
   rcases hk q hq with h0 | h0
   · exact .inl (by rw [hl3, hc1]; exact h0)
   · exact .inr (by rw [hl3, hc1]; exact ⟨h0.wrote, h0.out, h0.reads, h0.spans⟩)
theorem Sim.commit {less more less' more' : CertV} (h : Sim less more) {s : SubP} (hw : s.Words) {n1 n2 : Int} (h1 : Step less s 0 n1 less') (h2 : Step more s 0 n2 more') (hlen : more.recs.length < 32) : n1 = n2 ∧ Sim less' more' ∧ more'.recs.length = more.recs.length + 1 := by
 have hmok := h2.ok h.mok hw
 obtain ⟨hr2, ⟨hx, _⟩ | ⟨_, hn2, m2, hm2, hm'⟩⟩ := h2
 · exact absurd rfl hx
 obtain ⟨hn1, h0⟩ := h.to0.commit hw h1 m2 hm2
 have hmore : more' = moreP more m2 (decide (0 < (besideP more s).least)) := by
  rw [hm']
  unfold commitP lessP
  rw [if_neg]
  show ¬ more.keep < (more.recs ++ [_]).length
  rw [h.keep, List.length_append, List.length_singleton]
  omega
 rw [← hmore] at h0
 exact ⟨by rw [hn1, hn2], ⟨h0.lok, hmok, h0.count, h0.hor, h0.t1, h0.t2, h0.t3, h0.t4, by rw [hmore]; exact h.keep, h0.recs, h0.nums, h0.len⟩, by rw [hmore]; simp [moreP]⟩
end Go.Proofs.YtpknmfmpiachkaaGreat
