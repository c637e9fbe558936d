/- What commits has an order: in plain words. -/
import Derived.Test.YtpknmfmpiachkaaGreatSim2
import Derived.Test.YtpknmfmpiachkaaGreatSer7
namespace Go.Proofs.YtpknmfmpiachkaaGreat
open Go.RowKit
structure Hist where
 n : Nat
 snap : Nat → Int
 R : Nat → Nat → Prop
 W : Nat → Nat → Prop
def Hist.out (h : Hist) (v : Nat) : Prop := ∃ j : Nat, h.snap v < j ∧ j < v ∧ 1 ≤ j ∧ h.R v j
structure Hist.Fine (h : Hist) : Prop where
 low : ∀ i, 1 ≤ i → i ≤ h.n → h.snap i < i
 apart : ∀ i j : Nat, 1 ≤ i → i < j → j ≤ h.n → h.snap j < i → ¬ h.W i j
 out : ∀ t v : Nat, 1 ≤ v → v < t → t ≤ h.n → h.snap t < v → h.R t v → ¬ h.out v
 danger : ∀ t v u : Nat, 1 ≤ v → v < t → 1 ≤ u → u < t → t ≤ h.n → h.snap t < v → h.R t v → h.snap t < u → h.R u t → u < v
def Hist.Edge (h : Hist) (i j : Nat) : Prop := i ≠ j ∧ ((i < j ∧ h.W i j) ∨ ((i : Int) ≤ h.snap j ∧ h.R j i) ∨ (h.snap i < j ∧ h.R i j))
theorem Hist.Fine.kinds {h : Hist} (f : h.Fine) {y x : Nat} (hy : 1 ≤ y) (hx : x ≤ h.n) (e : h.Edge y x) : (y : Int) ≤ h.snap x ∨ (h.snap y < x ∧ h.snap x < y ∧ h.R y x) := by
 obtain ⟨_, ⟨h1, h2⟩ | ⟨h1, _⟩ | ⟨h1, h2⟩⟩ := e
 · by_cases hc : h.snap x < y
   · exact absurd h2 (f.apart y x hy h1 hx hc)
   · exact .inl (by omega)
 · exact .inl h1
 · by_cases hc : h.snap x < y
   · exact .inr ⟨h1, hc, h2⟩
   · exact .inl (by omega)
theorem Hist.Fine.noRound {h : Hist} (f : h.Fine) (X : Nat → Prop) (hX : ∀ x, X x → 1 ≤ x ∧ x ≤ h.n) (pre : ∀ x, X x → ∃ y, X y ∧ h.Edge y x) : ∀ x, ¬ X x := by
 intro x hx
 -- the least of X
 have least : ∃ c, X c ∧ ∀ y, X y → c ≤ y := by
  have aux : ∀ k x, x ≤ k → X x → ∃ c, X c ∧ ∀ y, X y → c ≤ y := by
   intro k
   induction k with
   | zero => intro x h0 hx; exact ⟨x, hx, fun y _ => by omega⟩
   | succ k ih =>
     intro x h0 hx
     by_cases hc : ∃ y, X y ∧ y < x
     · obtain ⟨y, hy, hlt⟩ := hc
       exact ih y (by omega) hy
     · exact ⟨x, hx, fun y hy => Nat.le_of_not_lt fun hlt => hc ⟨y, hy, hlt⟩⟩
  exact aux x x (Nat.le_refl _) hx
 obtain ⟨c, hc, hmin⟩ := least
 obtain ⟨b, hb, ebc⟩ := pre c hc
 obtain ⟨a, ha, eab⟩ := pre b hb
 have rc := hX c hc
 have rb := hX b hb
 have ra := hX a ha
 have mb := hmin b hb
 have ma := hmin a ha
 have lc := f.low c rc.1 rc.2
 have lb := f.low b rb.1 rb.2
 rcases f.kinds rb.1 rc.2 ebc with h1 | ⟨h1, h2, h3⟩
 · omega
 rcases f.kinds ra.1 rb.2 eab with g1 | ⟨g1, g2, g3⟩
 · omega
 have nbc : b ≠ c := ebc.1
 have nab : a ≠ b := eab.1
 by_cases hab : a < b
 · have := f.danger b c a rc.1 (by omega) ra.1 hab rb.2 h1 h3 g2 g3
   omega
 · exact f.out a b rb.1 (by omega) ra.2 g1 g3 ⟨c, h1, by omega, rc.1, h3⟩
theorem snoc_ind {α : Type} {P : List α → Prop} (h0 : P []) (h1 : ∀ l a, P l → P (l ++ [a])) (l : List α) : P l := by
 rw [← List.reverse_reverse l]
 induction l.reverse with
 | nil => exact h0
 | cons a r ih => rw [List.reverse_cons]; exact h1 _ _ ih
def seesP (P : List RecV) (s : SubP) : LookP := P.foldl (besideStep s) zeroL
theorem sees_all (s : SubP) (S : List RecV) : S.Pairwise (fun a b => a.num < b.num) → (∀ r ∈ S, 0 < r.num) → ∀ r ∈ S, s.snap < r.num →
 (s.writes.any (fun x => writesP r.m.s x) = true → (seesP S s).written = true) ∧
 (meetsP s r.m.s = true → r.out = true → (seesP S s).out = true) ∧
 (meetsP s r.m.s = true → 0 < (seesP S s).least ∧ (seesP S s).least ≤ r.num) ∧
 (meetsP r.m.s s = true → r.num ≤ (seesP S s).most) := by
 refine snoc_ind (P := fun S : List RecV => S.Pairwise (fun a b => a.num < b.num) → (∀ r ∈ S, 0 < r.num) → ∀ r ∈ S, s.snap < r.num →
  (s.writes.any (fun x => writesP r.m.s x) = true → (seesP S s).written = true) ∧
  (meetsP s r.m.s = true → r.out = true → (seesP S s).out = true) ∧
  (meetsP s r.m.s = true → 0 < (seesP S s).least ∧ (seesP S s).least ≤ r.num) ∧
  (meetsP r.m.s s = true → r.num ≤ (seesP S s).most)) ?_ ?_ S
 · intro _ _ r hr
   exact absurd hr List.not_mem_nil
 · intro l a ih hp hpos r hr hsn
   rw [List.pairwise_append] at hp
   obtain ⟨hpl, _, hpa⟩ := hp
   have hposl : ∀ q ∈ l, 0 < q.num := fun q hq => hpos q (List.mem_append_left _ hq)
   have e : seesP (l ++ [a]) s = besideStep s (seesP l s) a := by unfold seesP; rw [List.foldl_append]; rfl
   rw [e]
   obtain ⟨M, hM⟩ : ∃ M, M = seesP l s := ⟨_, rfl⟩
   rcases List.mem_append.1 hr with hr | hr
   · have hlt := hpa r hr a (List.mem_singleton.2 rfl)
     obtain ⟨i1, i2, i3, i4⟩ := ih hpl hposl r hr hsn
     rw [← hM] at i1 i2 i3 i4 ⊢
     have e2 : besideStep s M a = ⟨M.written || s.writes.any (fun x => writesP a.m.s x), M.out || (meetsP s a.m.s && a.out), if meetsP s a.m.s && decide (M.least = 0) then a.num else M.least, if meetsP a.m.s s then a.num else M.most⟩ := by unfold besideStep; rw [if_neg (by omega)]
     rw [e2]
     simp only
     refine ⟨fun h => by rw [i1 h]; rfl, fun h ho => by rw [i2 h ho]; rfl, fun h => ?_, fun h => ?_⟩
     · have h3 := i3 h
       rw [if_neg (by rw [decide_eq_false (by omega)]; simp)]
       exact h3
     · have h4 := i4 h
       split <;> omega
   · rw [List.mem_singleton] at hr
     subst hr
     rw [← hM]
     have e2 : besideStep s M r = ⟨M.written || s.writes.any (fun x => writesP r.m.s x), M.out || (meetsP s r.m.s && r.out), if meetsP s r.m.s && decide (M.least = 0) then r.num else M.least, if meetsP r.m.s s then r.num else M.most⟩ := by unfold besideStep; rw [if_neg (by omega)]
     rw [e2]
     simp only
     refine ⟨fun h => by rw [h]; simp, fun h ho => by rw [h, ho]; simp, fun h => ?_, fun h => by rw [if_pos h]; exact Int.le_refl _⟩
     have hr0 := hpos r hr
     by_cases hz : M.least = 0
     · rw [if_pos (by rw [h, decide_eq_true hz]; rfl)]
       omega
     · rw [if_neg (by rw [decide_eq_false hz]; simp)]
       have hf := (beside_found s l zeroL).2.2.1
       rcases hf with hf | ⟨q, hq, _, _, hf⟩
       · exact absurd (by rw [hM]; exact hf) hz
       · have h1 := hposl q hq
         have h2 := hpa q hq r (List.mem_singleton.2 rfl)
         have h3 : M.least = q.num := by rw [hM]; exact hf
         omega
structure GoodAt (P : List RecV) (r : RecV) : Prop where
 num : r.num = (P.length : Int) + 1
 right : r.m.s.Right
 check : checkP r.m.s = 0
 snap : r.m.s.snap < r.num
 written : (seesP P r.m.s).written = false
 danger : dangerP (seesP P r.m.s) = false
 out : r.out = decide (0 < (seesP P r.m.s).least)
def Good (L : List RecV) : Prop := ∀ (i : Nat) r, L[i]? = some r → GoodAt (L.take i) r
theorem Good.nil : Good [] := fun i r h => by simp at h
theorem Good.snoc {L : List RecV} (h : Good L) {r : RecV} (hr : GoodAt L r) : Good (L ++ [r]) := by
 intro i q hq
 rw [List.getElem?_append] at hq
 split at hq
 · rename_i hlt
   rw [List.take_append_of_le_length (by omega)]
   exact h i q hq
 · rename_i hge
   have hi : i = L.length := by
    have := (List.getElem?_eq_some_iff.1 hq).1
    rw [List.length_singleton] at this
    omega
   subst hi
   rw [Nat.sub_self, List.getElem?_cons_zero, Option.some.injEq] at hq
   subst hq
   rw [List.take_left]
   exact hr
theorem Good.numAt {L : List RecV} (h : Good L) {i : Nat} {r : RecV} (hr : L[i]? = some r) : r.num = (i : Int) + 1 := by
 have h1 := (h i r hr).num
 have h2 := (List.getElem?_eq_some_iff.1 hr).1
 rw [List.length_take] at h1
 omega
theorem Good.pairs {L : List RecV} (h : Good L) : L.Pairwise fun a b => a.num < b.num := by
 rw [List.pairwise_iff_getElem]
 intro i j hi hj hij
 have h1 := h.numAt (List.getElem?_eq_getElem hi)
 have h2 := h.numAt (List.getElem?_eq_getElem hj)
 omega
theorem Good.pos {L : List RecV} (h : Good L) : ∀ r ∈ L, 0 < r.num := fun r hr => by
 obtain ⟨i, hi⟩ := List.mem_iff_getElem?.1 hr
 have := h.numAt hi
 omega
theorem check_zero {c : CertV} {s : SubP} (h : refuseP c s = 0) : checkP s = 0 := by
 unfold refuseP at h
 split at h
 · rename_i hne; exact absurd h hne
 · rename_i hne; simpa using hne
theorem Sim0.good {c G : CertV} (h : Sim0 c G) {s : SubP} (hw : s.Words) (hl : refuseP c s = 0) (m : SubM) (hm : m.s = s) : GoodAt G.recs ⟨G.count + 1, m, decide (0 < (besideP G s).least)⟩ := by
 obtain ⟨hr, h1, h2, h3, h4, h5⟩ := refuse_right hw hl
 have hst := h.strict hr h3
 have hsn := hr.snap.1
 have e : besideP G s = seesP G.recs s := by unfold besideP seesP; rw [summary_nil h.t1 h.t2 h.t3 h.t4 hsn]
 have h6 : (besideP G s).written = false := by
  cases hx : (besideP G s).written with
  | false => rfl
  | true => have := hst.written hx; rw [h4] at this; cases this
 have h7 : dangerP (besideP G s) = false := by
  cases hx : dangerP (besideP G s) with
  | false => rfl
  | true => have := hst.danger hx; rw [h5] at this; cases this
 have hlen := h.len
 have hc := h.count
 rw [e] at h6 h7
 refine ⟨by simp only; omega, by simp only; rw [hm]; exact hr, by simp only; rw [hm]; exact check_zero hl, by simp only; rw [hm]; omega, by simp only; rw [hm]; exact h6, by simp only; rw [hm]; exact h7, by simp only; rw [hm, e]⟩
def histG (L : List RecV) : Hist where
 n := L.length
 snap := fun i => match L[i - 1]? with
  | some r => r.m.s.snap
  | none => 0
 R := fun i j => ∃ a b, L[i - 1]? = some a ∧ L[j - 1]? = some b ∧ meetsP a.m.s b.m.s = true
 W := fun i j => ∃ a b, L[i - 1]? = some a ∧ L[j - 1]? = some b ∧ b.m.s.writes.any (fun x => writesP a.m.s x) = true
theorem snapG {L : List RecV} {i : Nat} {r : RecV} (h : L[i - 1]? = some r) : (histG L).snap i = r.m.s.snap := by
 show (match L[i - 1]? with
  | some r => r.m.s.snap
  | none => 0) = _
 rw [h]
theorem Good.sees {L : List RecV} (h : Good L) {i j : Nat} {a b : RecV} (ha : L[i]? = some a) (_ : L[j]? = some b) (hij : i < j) (hsn : b.m.s.snap < a.num) :
 (b.m.s.writes.any (fun x => writesP a.m.s x) = true → (seesP (L.take j) b.m.s).written = true) ∧
 (meetsP b.m.s a.m.s = true → a.out = true → (seesP (L.take j) b.m.s).out = true) ∧
 (meetsP b.m.s a.m.s = true → 0 < (seesP (L.take j) b.m.s).least ∧ (seesP (L.take j) b.m.s).least ≤ a.num) ∧
 (meetsP a.m.s b.m.s = true → a.num ≤ (seesP (L.take j) b.m.s).most) :=
 sees_all b.m.s (L.take j) (h.pairs.sublist (List.take_sublist _ _)) (fun r hr => h.pos r (List.mem_of_mem_take hr)) a (List.mem_iff_getElem?.2 ⟨i, by rw [List.getElem?_take_of_lt hij]; exact ha⟩) hsn
theorem Good.fine {L : List RecV} (h : Good L) : (histG L).Fine := by
 have at_ : ∀ i : Nat, 1 ≤ i → i ≤ L.length → ∃ r, L[i - 1]? = some r ∧ r.num = (i : Int) := fun i h1 h2 => by
  obtain ⟨r, hr⟩ : ∃ r, L[i - 1]? = some r := ⟨_, List.getElem?_eq_getElem (by omega)⟩
  have := h.numAt hr
  exact ⟨r, hr, by omega⟩
 refine ⟨fun i h1 h2 => ?_, fun i j h1 hij hj hs hw => ?_, fun t v h1 hvt ht hs hR ho => ?_, fun t v u h1 hvt hu hut ht hs hR hs2 hR2 => ?_⟩
 · obtain ⟨r, hr, hn⟩ := at_ i h1 h2
   have := (h _ r hr).snap
   rw [snapG hr]
   omega
 · obtain ⟨a, b, ha, hb, hw⟩ := hw
   have hna := h.numAt ha
   rw [snapG hb] at hs
   have h3 := (h.sees ha hb (by omega) (by omega)).1 hw
   rw [(h _ b hb).written] at h3
   cases h3
 · obtain ⟨a, b, ha, hb, hm⟩ := hR
   obtain ⟨j, hj1, hj2, hj3, b', c, hb', hc, hm2⟩ := ho
   obtain rfl : b = b' := by rw [hb] at hb'; exact Option.some.inj hb'
   have hnb := h.numAt hb
   have hnc := h.numAt hc
   rw [snapG ha] at hs
   rw [snapG hb] at hj1
   have h3 := (h.sees hc hb (by omega) (by omega)).2.2.1 hm2
   have hbo : b.out = true := by rw [(h _ b hb).out]; exact decide_eq_true h3.1
   have h4 := (h.sees hb ha (by omega) (by omega)).2.1 hm hbo
   have h5 := (h _ a ha).danger
   unfold dangerP at h5
   rw [h4] at h5
   cases h5
 · obtain ⟨a, b, ha, hb, hm⟩ := hR
   obtain ⟨c, a', hc, ha', hm2⟩ := hR2
   obtain rfl : a = a' := by rw [ha] at ha'; exact Option.some.inj ha'
   have hnb := h.numAt hb
   have hnc := h.numAt hc
   rw [snapG ha] at hs hs2
   have h3 := (h.sees hb ha (by omega) (by omega)).2.2.1 hm
   have h4 := (h.sees hc ha (by omega) (by omega)).2.2.2 hm2
   have h5 := (h _ a ha).danger
   unfold dangerP at h5
   simp only [Bool.or_eq_false_iff, Bool.and_eq_false_iff, decide_eq_false_iff_not] at h5
   rcases h5.2 with (h6 | h6) | h6 <;> omega
def doneG (r : RecV) : DoneV := ⟨r.num, r.m⟩
theorem feq_self {x : Nat} (h : Flo.nan x = false) : Flo.feq x x = true := by
 unfold Flo.feq
 rw [h]
 simp
theorem hasK_of {x : Nat} {ws : List Nat} (h : Flo.nan x = false) (hx : x ∈ ws) : hasK x ws = true := by
 unfold hasK
 exact List.any_eq_true.2 ⟨x, hx, feq_self h⟩
theorem any_sym {a b : SubP} (ha : a.Right) (hb : b.Right) (h : a.writes.any (fun x => writesP b x) = true) : b.writes.any (fun x => writesP a x) = true := by
 obtain ⟨x, hx, hw⟩ := List.any_eq_true.1 h
 have hk : KeyOk x := ha.writes x hx
 have hxb : x ∈ b.writes := hasK_mem hk hb.writes hw
 exact List.any_eq_true.2 ⟨x, hxb, hasK_of hk.2.1 hx⟩
theorem Good.edge {L : List RecV} (h : Good L) {i j : Nat} {a b : RecV} (ha : L[i]? = some a) (hb : L[j]? = some b) (hl : leadsP (doneG a) (doneG b) = true) : (histG L).Edge (i + 1) (j + 1) := by
 have hna := h.numAt ha
 have hnb := h.numAt hb
 unfold leadsP at hl
 split at hl
 · cases hl
 · rename_i hne
   have hne' : i ≠ j := fun e => hne (by show a.num = b.num; omega)
   refine ⟨by omega, ?_⟩
   have ha' : L[i + 1 - 1]? = some a := ha
   have hb' : L[j + 1 - 1]? = some b := hb
   rw [snapG ha', snapG hb']
   rw [Bool.or_eq_true, Bool.and_eq_true, decide_eq_true_eq] at hl
   rcases hl with hl | ⟨h1, h2⟩
   · obtain ⟨x, hx, hk⟩ := List.any_eq_true.1 hl
     unfold leadK at hk
     simp only [Bool.or_eq_true, Bool.and_eq_true, decide_eq_true_eq] at hk
     rcases hk with ⟨h1, h2⟩ | ⟨h1, h2⟩
     · refine .inl ⟨by have h1' : a.num < b.num := h1; omega, a, b, ha', hb', any_sym (h i a ha).right (h j b hb).right (List.any_eq_true.2 ⟨x, hx, h2⟩)⟩
     · refine .inr (.inl ⟨by have h1' : a.num ≤ b.m.s.snap := h1; omega, b, a, hb', ha', ?_⟩)
       exact List.any_eq_true.2 ⟨x, hx, h2⟩
   · refine .inr (.inr ⟨by have h1' : a.m.s.snap < b.num := h1; omega, a, b, ha', hb', h2⟩)
theorem edges_mem {h : List DoneV} {e : Int × Int} (he : e ∈ edgesP h) : ∃ a ∈ h, ∃ b ∈ h, leadsP a b = true ∧ e = (a.num, b.num) := by
 unfold edgesP at he
 split at he
 · obtain ⟨a, ha, he⟩ := List.mem_flatMap.1 he
   unfold edgesFrom at he
   obtain ⟨b, hb, rfl⟩ := List.mem_map.1 he
   rw [List.mem_filter] at hb
   exact ⟨a, ha, b, hb.1, hb.2, rfl⟩
 · exact absurd he List.not_mem_nil
theorem Good.unstuck {L : List RecV} (h : Good L) {order left : List Int} (ht : TopoOut (edgesP (L.map doneG)) ((L.map doneG).map DoneV.num) order left) : left = [] := by
 have hnum : ∀ x : Int, x ∈ (L.map doneG).map DoneV.num → ∃ (i : Nat) (r : RecV), L[i]? = some r ∧ x = (i : Int) + 1 := fun x hx => by
  rw [List.map_map] at hx
  obtain ⟨r, hr, rfl⟩ := List.mem_map.1 hx
  obtain ⟨i, hi⟩ := List.mem_iff_getElem?.1 hr
  exact ⟨i, r, hi, h.numAt hi⟩
 have hin : ∀ x ∈ left, x ∈ (L.map doneG).map DoneV.num := fun x hx => ht.perm.mem_iff.1 (List.mem_append_right _ hx)
 have hno := h.fine.noRound (fun x : Nat => (x : Int) ∈ left) (fun x hx => by
  obtain ⟨i, r, hi, e⟩ := hnum _ (hin _ hx)
  have := (List.getElem?_eq_some_iff.1 hi).1
  show 1 ≤ x ∧ x ≤ L.length
  omega) (fun x hx => by
  obtain ⟨e, he, e2, hno⟩ := ht.stuck _ hx
  obtain ⟨a, ha, b, hb, hl, rfl⟩ := edges_mem he
  obtain ⟨ra, hra, rfl⟩ := List.mem_map.1 ha
  obtain ⟨rb, hrb, rfl⟩ := List.mem_map.1 hb
  obtain ⟨i, hi⟩ := List.mem_iff_getElem?.1 hra
  obtain ⟨j, hj⟩ := List.mem_iff_getElem?.1 hrb
  have n1 := h.numAt hi
  have n2 := h.numAt hj
  have e2' : rb.num = (x : Int) := e2
  have hx' : x = j + 1 := by omega
  subst hx'
  refine ⟨i + 1, ?_, h.edge hi hj hl⟩
  have hmem : ra.num ∈ order ++ left := ht.perm.mem_iff.2 (List.mem_map.2 ⟨_, ha, rfl⟩)
  rcases List.mem_append.1 hmem with hm | hm
  · exact absurd hm hno
  · rw [show ((i + 1 : Nat) : Int) = ra.num by omega]
    exact hm)
 cases left with
 | nil => rfl
 | cons x r =>
   obtain ⟨i, q, hi, e⟩ := hnum x (hin x (List.mem_cons_self ..))
   exact absurd (show ((i + 1 : Nat) : Int) ∈ x :: r by rw [show ((i + 1 : Nat) : Int) = x by omega]; exact List.mem_cons_self ..) (hno (i + 1))
theorem rightL_of {h : List DoneV} : ∀ (l : List DoneV) (i : Nat), (∀ (k : Nat) d, l[k]? = some d → badAt h (i + k) d = false) → rightL h i l = true
 | [], _, _ => rfl
 | d :: r, i, hb => by
   unfold rightL
   rw [show badAt h i d = false from hb 0 d rfl, rightL_of r (i + 1) (fun k e he => by rw [show i + 1 + k = i + (k + 1) by omega]; exact hb (k + 1) e (by rw [List.getElem?_cons_succ]; exact he))]
   rfl
theorem Good.rightP {L : List RecV} (h : Good L) (hl : L.length ≤ 64) : rightP (L.map doneG) = true := by
 unfold Go.Proofs.YtpknmfmpiachkaaGreat.rightP
 rw [Bool.and_eq_true, decide_eq_true_eq]
 refine ⟨by rw [List.length_map]; exact hl, rightL_of _ 0 fun k d hd => ?_⟩
 rw [Nat.zero_add]
 rw [List.getElem?_map] at hd
 cases hr : L[k]? with
 | none => rw [hr] at hd; cases hd
 | some r =>
   rw [hr] at hd
   obtain rfl : doneG r = d := Option.some.inj hd
   have hg := h k r hr
   have hn := h.numAt hr
   have hany : ((L.map doneG).take k).any (fun x => clashS x (doneG r)) = false := by
    rw [List.any_eq_false]
    intro x hx hc
    rw [← List.map_take] at hx
    obtain ⟨a, ha, rfl⟩ := List.mem_map.1 hx
    obtain ⟨i, hi⟩ := List.mem_iff_getElem?.1 ha
    have hik : i < k := by
     have := (List.getElem?_eq_some_iff.1 hi).1
     rw [List.length_take] at this
     omega
    rw [List.getElem?_take_of_lt hik] at hi
    unfold clashS besideS at hc
    simp only [Bool.and_eq_true, decide_eq_true_eq] at hc
    obtain ⟨⟨h1, h2⟩, h3⟩ := hc
    have h4 := (h.sees hi hr hik h2).1 (any_sym (h i a hi).right hg.right h3)
    rw [hg.written] at h4
    cases h4
   unfold badAt
   rw [hany, decide_eq_false (by show ¬ (r.num ≠ (k : Int) + 1); omega), decide_eq_false (by show ¬ (checkP r.m.s ≠ 0); rw [hg.check]; simp), decide_eq_false (by show ¬ (r.num ≤ r.m.s.snap); have := hg.snap; omega)]
   rfl
end Go.Proofs.YtpknmfmpiachkaaGreat
