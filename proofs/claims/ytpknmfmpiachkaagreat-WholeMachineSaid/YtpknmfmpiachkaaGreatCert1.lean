/- Tables in plain words: where a key stands, what Put makes, what At and Over tell. -/
import Derived.Test.YtpknmfmpiachkaaGreatPreds3
namespace Go.Proofs.YtpknmfmpiachkaaGreat
def turn {α : Type} (c : α → Int) (l : List α) : Nat := l.findIdx fun v => decide (0 ≤ c v)
theorem turn_spec {α : Type} (c : α → Int) (l : List α) (h : l.Pairwise fun a b => c b < 0 → c a < 0) : Turns c l (turn c l) := by
 refine ⟨List.findIdx_le_length, fun k x hx => ⟨fun hc => ?_, fun hk => ?_⟩⟩
 · obtain ⟨hkl, hkx⟩ := List.getElem?_eq_some_iff.1 hx
   apply Decidable.byContradiction
   intro hn
   have hlt : turn c l < l.length := Nat.lt_of_le_of_lt (Nat.le_of_not_lt hn) hkl
   have h0 : decide (0 ≤ c l[turn c l]) = true := List.findIdx_getElem (w := hlt)
   have h1 : 0 ≤ c l[turn c l] := of_decide_eq_true h0
   rcases Nat.eq_or_lt_of_le (Nat.le_of_not_lt hn) with he | hl
   · have : l[turn c l] = x := by rw [← hkx]; congr 1
     rw [this] at h1
     omega
   · have := List.pairwise_iff_getElem.1 h _ _ hlt hkl hl
     rw [hkx] at this
     have := this hc
     omega
 · obtain ⟨hkl, hkx⟩ := List.getElem?_eq_some_iff.1 hx
   have := List.not_of_lt_findIdx hk
   rw [hkx] at this
   simpa using this
theorem pw_ins {α : Type} {lt : α → α → Prop} {l : List α} (h : l.Pairwise lt) (p : Nat) (x : α) (h1 : ∀ y ∈ l.take p, lt y x) (h2 : ∀ y ∈ l.drop p, lt x y) : (l.take p ++ [x] ++ l.drop p).Pairwise lt := by
 rw [← List.take_append_drop p l, List.pairwise_append] at h
 rw [List.append_assoc, List.pairwise_append]
 refine ⟨h.1, ?_, fun a ha b hb => ?_⟩
 · rw [List.singleton_append, List.pairwise_cons]
   exact ⟨h2, h.2.1⟩
 · rw [List.singleton_append, List.mem_cons] at hb
   rcases hb with rfl | hb
   · exact h1 a ha
   · exact h.2.2 a ha b hb
theorem pw_set {α : Type} {lt : α → α → Prop} {l : List α} (h : l.Pairwise lt) (p : Nat) (x y : α) (hx : l[p]? = some x) (h1 : ∀ z, lt z x → lt z y) (h2 : ∀ z, lt x z → lt y z) : (l.set p y).Pairwise lt := by
 rw [List.pairwise_iff_getElem] at h ⊢
 obtain ⟨hp, hpx⟩ := List.getElem?_eq_some_iff.1 hx
 intro i j hi hj hij
 rw [List.length_set] at hi hj
 have := h i j hi hj hij
 rw [List.getElem_set, List.getElem_set]
 by_cases hpi : p = i
 · subst hpi
   rw [if_pos rfl, if_neg (by omega)]
   rw [hpx] at this
   exact h2 _ this
 · rw [if_neg hpi]
   by_cases hpj : p = j
   · subst hpj
     rw [if_pos rfl]
     rw [hpx] at this
     exact h1 _ this
   · rw [if_neg hpj]
     exact this
theorem turns_take {α : Type} {c : α → Int} {l : List α} {p : Nat} (h : Turns c l p) : ∀ y ∈ l.take p, c y < 0 := by
 intro y hy
 obtain ⟨k, hk⟩ := List.mem_iff_getElem?.1 hy
 rw [List.getElem?_take] at hk
 split at hk
 · exact (h.2 k y hk).2 (by assumption)
 · cases hk
theorem turns_drop {α : Type} {c : α → Int} {l : List α} {p : Nat} (h : Turns c l p) : ∀ y ∈ l.drop p, 0 ≤ c y := by
 intro y hy
 obtain ⟨k, hk⟩ := List.mem_iff_getElem?.1 hy
 rw [List.getElem?_drop] at hk
 have := h.2 _ y hk
 omega
def KeyOk (x : Nat) : Prop := x < 18446744073709551616 ∧ Flo.nan x = false ∧ Flo.canon x = x
theorem KeyOk.eq {x y : Nat} (hx : KeyOk x) (hy : KeyOk y) (h : Flo.code x = Flo.code y) : x = y := Flo.code_inj x y hx.1 hy.1 h hx.2.2 hy.2.2
theorem cmp_lt (a b : Nat) : Flo.cmp a b < 0 ↔ Flo.code a < Flo.code b := by
 unfold Flo.cmp Flo.cmpN; split
 · simp; assumption
 · split <;> omega
theorem cmp_zero (a b : Nat) : Flo.cmp a b = 0 ↔ Flo.code a = Flo.code b := by
 unfold Flo.cmp Flo.cmpN; split
 · omega
 · split <;> omega
structure SortedV (L : List VI) : Prop where
 up : L.Pairwise fun a b => Flo.code a.key < Flo.code b.key
 key : ∀ v ∈ L, KeyOk v.key
def vpos (L : List VI) (key : Nat) : Nat := turn (fun v : VI => Flo.cmp v.key key) L
theorem SortedV.turns {L : List VI} (h : SortedV L) (key : Nat) : Turns (fun v : VI => Flo.cmp v.key key) L (vpos L key) :=
 turn_spec _ _ (h.up.imp fun {a b} hab hc => by rw [cmp_lt] at hc ⊢; omega)
def vAt (L : List VI) (key : Nat) : Int := vNum L key (vpos L key)
def vHas (L : List VI) (key : Nat) : Bool := foundAt (fun v : VI => Flo.cmp v.key key) L (vpos L key)
def vOver (L : List VI) (s : Spn) : Int := if emptyS (canonS s) then 0 else overL (canonS s).hi (L.drop (vpos L (canonS s).lo)) 0
def vPut (L : List VI) (key : Nat) (num : Int) : List VI := match L[vpos L key]? with
 | some x => if Flo.cmp x.key key = 0 then L.set (vpos L key) ⟨x.key, max x.num num⟩ else vIns L (vpos L key) key num
 | none => vIns L (vpos L key) key num
def vFull (most : Nat) (L : List VI) (key : Nat) : Bool := !vHas L key && decide (most = L.length)
theorem vIns_sorted {L : List VI} (h : SortedV L) {key : Nat} (hk : KeyOk key) (num : Int) (hn : vHas L key = false) : SortedV (vIns L (vpos L key) key num) := by
 have ht := h.turns key
 have hkc : Flo.canon key = key := hk.2.2
 have hdrop : ∀ y ∈ L.drop (vpos L key), Flo.code key < Flo.code y.key := by
  intro y hy
  have h0 := turns_drop ht y hy
  have h1 : ¬ Flo.code y.key < Flo.code key := by rw [← cmp_lt]; omega
  apply Decidable.byContradiction
  intro hnl
  obtain ⟨k, hk2⟩ := List.mem_iff_getElem?.1 hy
  rw [List.getElem?_drop] at hk2
  obtain ⟨hkl, hky⟩ := List.getElem?_eq_some_iff.1 hk2
  have hpl : vpos L key < L.length := by omega
  have hx : L[vpos L key]? = some L[vpos L key] := List.getElem?_eq_getElem hpl
  have hx0 : ¬ Flo.cmp L[vpos L key].key key < 0 := fun hc => absurd ((ht.2 _ _ hx).1 hc) (Nat.lt_irrefl _)
  have hx1 : ¬ Flo.code L[vpos L key].key < Flo.code key := by rw [← cmp_lt]; exact hx0
  have hx2 : ¬ Flo.code L[vpos L key].key = Flo.code key := by
   intro he
   unfold vHas foundAt at hn
   rw [hx] at hn
   simp only [decide_eq_false_iff_not] at hn
   exact hn ((cmp_zero _ _).2 he)
  have hle : Flo.code L[vpos L key].key ≤ Flo.code y.key := by
   rcases Nat.eq_zero_or_pos k with h0 | h0
   · subst h0
     rw [← hky]
     exact Nat.le_refl _
   · have := List.pairwise_iff_getElem.1 h.up _ _ hpl hkl (by omega)
     rw [hky] at this
     omega
  omega
 refine ⟨?_, fun v hv => ?_⟩
 · unfold vIns
   refine pw_ins h.up _ _ (fun y hy => ?_) (fun y hy => ?_)
   · simp only [hkc]
     exact (cmp_lt _ _).1 (turns_take ht y hy)
   · simp only [hkc]
     exact hdrop y hy
 · simp only [vIns, List.mem_append, List.mem_singleton] at hv
   rcases hv with (hv | rfl) | hv
   · exact h.key v (List.mem_of_mem_take hv)
   · simp only [hkc]; exact hk
   · exact h.key v (List.mem_of_mem_drop hv)
theorem vPut_cases {L : List VI} {key : Nat} (num : Int) : (vHas L key = true ∧ ∃ x, L[vpos L key]? = some x ∧ Flo.cmp x.key key = 0 ∧ vPut L key num = L.set (vpos L key) ⟨x.key, max x.num num⟩) ∨ (vHas L key = false ∧ vPut L key num = vIns L (vpos L key) key num) := by
 unfold vHas foundAt vPut
 cases hx : L[vpos L key]? with
 | none => exact .inr ⟨rfl, rfl⟩
 | some x =>
   simp only
   by_cases hc : Flo.cmp x.key key = 0
   · exact .inl ⟨decide_eq_true hc, x, rfl, hc, if_pos hc⟩
   · exact .inr ⟨decide_eq_false hc, if_neg hc⟩
theorem vPut_sorted {L : List VI} (h : SortedV L) {key : Nat} (hk : KeyOk key) (num : Int) : SortedV (vPut L key num) := by
 rcases vPut_cases (L := L) (key := key) num with ⟨_, x, hx, _, he⟩ | ⟨hn, he⟩
 · rw [he]
   refine ⟨pw_set h.up _ x _ hx (fun _ h => h) (fun _ h => h), fun v hv => ?_⟩
   rcases List.mem_or_eq_of_mem_set hv with hv | rfl
   · exact h.key v hv
   · exact h.key x (List.mem_of_getElem? hx)
 · rw [he]
   exact vIns_sorted h hk num hn
def Says (L : List VI) (key : Nat) (n : Int) : Prop := ∃ v ∈ L, v.key = key ∧ n ≤ v.num
theorem vPut_keeps {L : List VI} {key : Nat} (num : Int) {k : Nat} {n : Int} (hs : Says L k n) : Says (vPut L key num) k n := by
 obtain ⟨v, hv, hk, hn⟩ := hs
 rcases vPut_cases (L := L) (key := key) num with ⟨_, x, hx, _, he⟩ | ⟨_, he⟩
 · rw [he]
   obtain ⟨i, hi⟩ := List.mem_iff_getElem?.1 hv
   by_cases hp : vpos L key = i
   · subst hp
     rw [hx] at hi
     cases hi
     exact ⟨⟨v.key, max v.num num⟩, List.mem_of_getElem? (i := vpos L key) (by rw [List.getElem?_set_self (List.getElem?_eq_some_iff.1 hx).1]), hk, by simp only; omega⟩
   · exact ⟨v, List.mem_of_getElem? (i := i) (by rw [List.getElem?_set_ne hp]; exact hi), hk, hn⟩
 · rw [he]
   refine ⟨v, ?_, hk, hn⟩
   unfold vIns
   rw [← List.take_append_drop (vpos L key) L, List.mem_append] at hv
   simp only [List.mem_append]
   rcases hv with hv | hv
   · exact .inl (.inl hv)
   · exact .inr hv
theorem vPut_says {L : List VI} (h : SortedV L) {key : Nat} (hk : KeyOk key) (num : Int) : Says (vPut L key num) key num := by
 rcases vPut_cases (L := L) (key := key) num with ⟨_, x, hx, hc, he⟩ | ⟨_, he⟩
 · rw [he]
   exact ⟨⟨x.key, max x.num num⟩, List.mem_of_getElem? (i := vpos L key) (by rw [List.getElem?_set_self (List.getElem?_eq_some_iff.1 hx).1]), (h.key x (List.mem_of_getElem? hx)).eq hk ((cmp_zero _ _).1 hc), by simp only; omega⟩
 · rw [he]
   exact ⟨⟨Flo.canon key, num⟩, by simp [vIns], hk.2.2, Int.le_refl _⟩
theorem vAt_says {L : List VI} (h : SortedV L) {key : Nat} {n : Int} (hs : Says L key n) : n ≤ vAt L key := by
 obtain ⟨v, hv, hk, hn⟩ := hs
 subst hk
 have ht := h.turns v.key
 obtain ⟨i, hi⟩ := List.mem_iff_getElem?.1 hv
 obtain ⟨hil, hiv⟩ := List.getElem?_eq_some_iff.1 hi
 have h1 : ¬ i < vpos L v.key := fun hlt => by
  have := (ht.2 i v hi).2 hlt
  rw [cmp_lt] at this
  omega
 have h2 : ¬ vpos L v.key < i := fun hlt => by
  have hpl : vpos L v.key < L.length := by omega
  have := List.pairwise_iff_getElem.1 h.up _ _ hpl hil hlt
  rw [hiv] at this
  have := (ht.2 _ _ (List.getElem?_eq_getElem hpl)).1 ((cmp_lt _ _).2 this)
  omega
 have h3 : vpos L v.key = i := by omega
 unfold vAt vNum
 rw [h3, hi]
 simp only
 rw [if_pos ((cmp_zero _ _).2 rfl)]
 exact hn
theorem overL_ge (hi : Nat) (L : List VI) : ∀ m, m ≤ overL hi L m := by
 induction L with
 | nil => intro m; exact Int.le_refl _
 | cons v r ih =>
   intro m
   unfold overL
   split
   · exact Int.le_trans (by omega) (ih _)
   · exact Int.le_refl _
theorem overL_says (hi : Nat) (hh : Flo.nan hi = false) (L : List VI) : ∀ m, (L.Pairwise fun a b => Flo.code a.key < Flo.code b.key) → (∀ v ∈ L, KeyOk v.key) → ∀ v ∈ L, Flo.code v.key ≤ Flo.code hi → v.num ≤ overL hi L m := by
 induction L with
 | nil => intro m _ _ v hv; cases hv
 | cons u r ih =>
   intro m hp hk v hv hc
   have hu : Flo.code u.key ≤ Flo.code hi := by
    rcases List.mem_cons.1 hv with rfl | hv'
    · exact hc
    · have := (List.pairwise_cons.1 hp).1 v hv'
      omega
   have hf : Flo.fle u.key hi = true := by
    unfold Flo.fle
    rw [hh, (hk u (List.mem_cons_self ..)).2.1]
    simpa using hu
   unfold overL
   rw [if_pos hf]
   rcases List.mem_cons.1 hv with rfl | hv'
   · exact Int.le_trans (by omega) (overL_ge hi r _)
   · exact ih _ (List.pairwise_cons.1 hp).2 (fun w hw => hk w (List.mem_cons_of_mem _ hw)) v hv' hc
theorem vOver_says {L : List VI} (h : SortedV L) {s : Spn} (hs : GoodS s) {key : Nat} {n : Int} (hk : hasS s key = true) (hy : Says L key n) : n ≤ vOver L s := by
 obtain ⟨v, hv, rfl, hn⟩ := hy
 have hc := hs.canon
 have he : emptyS (canonS s) = false := by unfold emptyS; rw [hc, hc]; exact hs.lop
 unfold hasS at hk
 rw [hc] at hk
 simp only [Bool.and_eq_true] at hk
 obtain ⟨⟨_, h1⟩, h2⟩ := hk
 unfold Flo.fle at h1 h2
 simp only [Bool.and_eq_true, decide_eq_true_eq] at h1 h2
 unfold vOver
 rw [he, hc]
 simp only [Bool.false_eq_true, if_false]
 have ht := h.turns s.lo
 have hsub : L.drop (vpos L s.lo) = L.drop (vpos L s.lo) := rfl
 obtain ⟨i, hi⟩ := List.mem_iff_getElem?.1 hv
 have hip : ¬ i < vpos L s.lo := fun hlt => by
  have := (ht.2 i v hi).2 hlt
  rw [cmp_lt] at this
  omega
 have hmem : v ∈ L.drop (vpos L s.lo) := List.mem_of_getElem? (i := i - vpos L s.lo) (by rw [List.getElem?_drop, show vpos L s.lo + (i - vpos L s.lo) = i by omega]; exact hi)
 refine Int.le_trans hn (overL_says s.hi hs.nhi _ 0 (h.up.sublist (List.drop_sublist _ _)) (fun u hu => h.key u (List.mem_of_mem_drop hu)) v hmem h2.2)
structure SortedP (L : List PI) : Prop where
 up : L.Pairwise fun a b => cmpS a.s b.s < 0
 good : ∀ v ∈ L, GoodS v.s
def ppos (L : List PI) (s : Spn) : Nat := turn (fun v : PI => cmpS v.s s) L
def pHas (L : List PI) (s : Spn) : Bool := foundAt (fun v : PI => cmpS v.s s) L (ppos L s)
def pPut (L : List PI) (s : Spn) (num : Int) : List PI := match L[ppos L s]? with
 | some x => if cmpS x.s s = 0 then L.set (ppos L s) ⟨x.s, max x.num num⟩ else pIns L (ppos L s) s num
 | none => pIns L (ppos L s) s num
def pFull (most : Nat) (L : List PI) (s : Spn) : Bool := !pHas L s && decide (most = L.length)
def pAtL (key : Nat) : List PI → Int → Int
 | [], m => m
 | v :: r, m => if Flo.flt key v.s.lo then m else pAtL key r (if hasS v.s key then max m v.num else m)
theorem cmpS_trans {a b c : Spn} (ha : GoodS a) (hb : GoodS b) (hc : GoodS c) (h1 : cmpS a b < 0) (h2 : cmpS b c < 0) : cmpS a c < 0 := by
 rw [cmpS_lt ha hb] at h1
 rw [cmpS_lt hb hc] at h2
 rw [cmpS_lt ha hc]
 omega
theorem cmpS_anti {a b : Spn} (ha : GoodS a) (hb : GoodS b) (h1 : ¬ cmpS a b < 0) (h2 : ¬ cmpS a b = 0) : cmpS b a < 0 := by
 rw [cmpS_lt ha hb] at h1
 rw [cmpS_lt hb ha]
 have : ¬ (Flo.code a.lo = Flo.code b.lo ∧ Flo.code a.hi = Flo.code b.hi) := fun ⟨e1, e2⟩ => by
  have := good_eq ha hb e1 e2
  subst this
  apply h2
  rw [cmpS_good ha ha]
  unfold cmpO Flo.cmp Flo.cmpN
  simp
 omega
theorem SortedP.turns {L : List PI} (h : SortedP L) {s : Spn} (hs : GoodS s) : Turns (fun v : PI => cmpS v.s s) L (ppos L s) := by
 refine turn_spec _ _ (List.pairwise_iff_getElem.2 fun i j hi hj hij hc => ?_)
 exact cmpS_trans (h.good _ (List.getElem_mem _)) (h.good _ (List.getElem_mem _)) hs (List.pairwise_iff_getElem.1 h.up i j hi hj hij) hc
theorem pPut_cases {L : List PI} {s : Spn} (num : Int) : (pHas L s = true ∧ ∃ x, L[ppos L s]? = some x ∧ cmpS x.s s = 0 ∧ pPut L s num = L.set (ppos L s) ⟨x.s, max x.num num⟩) ∨ (pHas L s = false ∧ pPut L s num = pIns L (ppos L s) s num) := by
 unfold pHas foundAt pPut
 cases hx : L[ppos L s]? with
 | none => exact .inr ⟨rfl, rfl⟩
 | some x =>
   simp only
   by_cases hc : cmpS x.s s = 0
   · exact .inl ⟨decide_eq_true hc, x, rfl, hc, if_pos hc⟩
   · exact .inr ⟨decide_eq_false hc, if_neg hc⟩
theorem pIns_sorted {L : List PI} (h : SortedP L) {s : Spn} (hs : GoodS s) (num : Int) (hn : pHas L s = false) : SortedP (pIns L (ppos L s) s num) := by
 have ht := h.turns hs
 refine ⟨?_, fun v hv => ?_⟩
 · unfold pIns
   refine pw_ins h.up _ _ (fun y hy => turns_take ht y hy) (fun y hy => ?_)
   have h0 := turns_drop ht y hy
   have hyg := h.good y (List.mem_of_mem_drop hy)
   obtain ⟨k, hk2⟩ := List.mem_iff_getElem?.1 hy
   rw [List.getElem?_drop] at hk2
   obtain ⟨hkl, hky⟩ := List.getElem?_eq_some_iff.1 hk2
   have hpl : ppos L s < L.length := by omega
   have hx : L[ppos L s]? = some L[ppos L s] := List.getElem?_eq_getElem hpl
   have hxg := h.good _ (List.mem_of_getElem? hx)
   have hx0 : ¬ cmpS L[ppos L s].s s < 0 := fun hc => absurd ((ht.2 _ _ hx).1 hc) (Nat.lt_irrefl _)
   have hx2 : ¬ cmpS L[ppos L s].s s = 0 := by
    intro he
    unfold pHas foundAt at hn
    rw [hx] at hn
    simp only [decide_eq_false_iff_not] at hn
    exact hn he
   have hsx := cmpS_anti hxg hs hx0 hx2
   rcases Nat.eq_zero_or_pos k with h0 | h0
   · subst h0
     have : L[ppos L s] = y := hky
     rw [← this]
     exact hsx
   · have := List.pairwise_iff_getElem.1 h.up _ _ hpl hkl (by omega)
     rw [hky] at this
     exact cmpS_trans hs hxg hyg hsx this
 · simp only [pIns, List.mem_append, List.mem_singleton] at hv
   rcases hv with (hv | rfl) | hv
   · exact h.good v (List.mem_of_mem_take hv)
   · exact hs
   · exact h.good v (List.mem_of_mem_drop hv)
theorem pPut_sorted {L : List PI} (h : SortedP L) {s : Spn} (hs : GoodS s) (num : Int) : SortedP (pPut L s num) := by
 rcases pPut_cases (L := L) (s := s) num with ⟨_, x, hx, _, he⟩ | ⟨hn, he⟩
 · rw [he]
   refine ⟨pw_set h.up _ x _ hx (fun _ h => h) (fun _ h => h), fun v hv => ?_⟩
   rcases List.mem_or_eq_of_mem_set hv with hv | rfl
   · exact h.good v hv
   · exact h.good x (List.mem_of_getElem? hx)
 · rw [he]
   exact pIns_sorted h hs num hn
def SaysP (L : List PI) (s : Spn) (n : Int) : Prop := ∃ v ∈ L, v.s = s ∧ n ≤ v.num
theorem pPut_keeps {L : List PI} {s : Spn} (num : Int) {k : Spn} {n : Int} (hs : SaysP L k n) : SaysP (pPut L s num) k n := by
 obtain ⟨v, hv, hk, hn⟩ := hs
 rcases pPut_cases (L := L) (s := s) num with ⟨_, x, hx, _, he⟩ | ⟨_, he⟩
 · rw [he]
   obtain ⟨i, hi⟩ := List.mem_iff_getElem?.1 hv
   by_cases hp : ppos L s = i
   · subst hp
     rw [hx] at hi
     cases hi
     exact ⟨⟨v.s, max v.num num⟩, List.mem_of_getElem? (i := ppos L s) (by rw [List.getElem?_set_self (List.getElem?_eq_some_iff.1 hx).1]), hk, by simp only; omega⟩
   · exact ⟨v, List.mem_of_getElem? (i := i) (by rw [List.getElem?_set_ne hp]; exact hi), hk, hn⟩
 · rw [he]
   refine ⟨v, ?_, hk, hn⟩
   unfold pIns
   rw [← List.take_append_drop (ppos L s) L, List.mem_append] at hv
   simp only [List.mem_append]
   rcases hv with hv | hv
   · exact .inl (.inl hv)
   · exact .inr hv
theorem cmpS_zero {a b : Spn} (ha : GoodS a) (hb : GoodS b) (h : cmpS a b = 0) : a = b := by
 have h1 : ¬ cmpS a b < 0 := by omega
 rw [cmpS_lt ha hb] at h1
 rw [cmpS_good ha hb] at h
 unfold cmpO at h
 split at h
 · omega
 · rename_i h2
   exact good_eq ha hb ((cmp_zero _ _).1 (by simpa using h2)) ((cmp_zero _ _).1 h)
theorem pPut_says {L : List PI} (h : SortedP L) {s : Spn} (hs : GoodS s) (num : Int) : SaysP (pPut L s num) s num := by
 rcases pPut_cases (L := L) (s := s) num with ⟨_, x, hx, hc, he⟩ | ⟨_, he⟩
 · rw [he]
   exact ⟨⟨x.s, max x.num num⟩, List.mem_of_getElem? (i := ppos L s) (by rw [List.getElem?_set_self (List.getElem?_eq_some_iff.1 hx).1]), cmpS_zero (h.good x (List.mem_of_getElem? hx)) hs hc, by simp only; omega⟩
 · rw [he]
   exact ⟨⟨s, num⟩, by simp [pIns], rfl, Int.le_refl _⟩
theorem pAtL_ge (key : Nat) (L : List PI) : ∀ m, m ≤ pAtL key L m := by
 induction L with
 | nil => intro m; exact Int.le_refl _
 | cons v r ih =>
   intro m
   unfold pAtL
   split
   · exact Int.le_refl _
   · refine Int.le_trans ?_ (ih _)
     split <;> omega
theorem pAtL_says (key : Nat) (L : List PI) : ∀ m, SortedP L → ∀ v ∈ L, hasS v.s key = true → v.num ≤ pAtL key L m := by
 induction L with
 | nil => intro m _ v hv; cases hv
 | cons u r ih =>
   intro m hp v hv hc
   have hgv := hp.good v hv
   have hgu := hp.good u (List.mem_cons_self ..)
   have hcc := hc
   unfold hasS at hc
   rw [hgv.canon] at hc
   simp only [Bool.and_eq_true] at hc
   obtain ⟨⟨_, h1⟩, h2⟩ := hc
   unfold Flo.fle at h1
   simp only [Bool.and_eq_true, decide_eq_true_eq] at h1
   have hu : Flo.code u.s.lo ≤ Flo.code key := by
    rcases List.mem_cons.1 hv with rfl | hv'
    · exact h1.2
    · have := (List.pairwise_cons.1 hp.up).1 v hv'
      rw [cmpS_lt hgu hgv] at this
      omega
   have hf : Flo.flt key u.s.lo = false := by
    unfold Flo.flt
    have : ¬ Flo.code key < Flo.code u.s.lo := by omega
    rw [decide_eq_false this, Bool.and_false]
   unfold pAtL
   rw [hf]
   simp only [Bool.false_eq_true, if_false]
   rcases List.mem_cons.1 hv with rfl | hv'
   · rw [hcc]
     exact Int.le_trans (by simp only [if_true]; omega) (pAtL_ge key r _)
   · exact ih _ ⟨(List.pairwise_cons.1 hp.up).2, fun w hw => hp.good w (List.mem_cons_of_mem _ hw)⟩ v hv' hcc
end Go.Proofs.YtpknmfmpiachkaaGreat
namespace Go.Proofs.YtpknmfmpiachkaaGreat
open Go.RowKit
theorem five_cells {w : World} {B : Nat} {T : TypeId} {c0 c1 c2 c3 c4 : Value} (h : w.heap[B]? = some (.cells #[c0, c1, c2, c3, c4] T (0, 0))) :
 w.cell? ⟨B, 0, none⟩ = some c0 ∧ w.cell? ⟨B, 1, none⟩ = some c1 ∧ w.cell? ⟨B, 2, none⟩ = some c2 ∧ w.cell? ⟨B, 3, none⟩ = some c3 ∧ w.cell? ⟨B, 4, none⟩ = some c4 := by
 refine ⟨?_, ?_, ?_, ?_, ?_⟩ <;> simp [World.cell?, h]
set_option maxRecDepth 100000 in
set_option maxHeartbeats 6400000 in
theorem pat_any (base N most : Nat) (ae : Option Addr) (n cap : Nat) (L : List PI) (key : Nat) (hkey : key < 18446744073709551616) (w : World) (hT : PT w base N most ae n cap L) :
 Calls Tryz.prog 102 #[.pointer (some ⟨N, 0, none⟩), .float .f64 key] w (RetBox w (.int .i64 (pAtL key L 0))) := by
 have hb64 : n ≤ 64 := by have := hT.2.2.2.2.2.1; have := hT.2.2.2.2.2.2.1; omega
 obtain ⟨R, hR⟩ : ∃ R, R = pAtL key L 0 := ⟨_, rfl⟩
 rw [← hR]
 have h1 := hT.f1
 have HR := Lib.hid hR
 have HT := Lib.hid hT
 clear hR hT
 go_enter Tryz.func102, Tryz.ntmps102
 go_wp2_with fail
 go_loopw [5, 13] (fun s5 s13 wr => ∃ (k : Nat) (m : Int), s5 = .int .i64 m ∧ s13 = .int .i64 k ∧ k ≤ n ∧ Hid (R = pAtL key (L.drop k) m) ∧ Hid (Below w.heap.size w wr)) (fun _ s13 _ => n - (intOf s13).toNat)
 case atStart => exact ⟨0, 0, rfl, rfl, Nat.zero_le _, HR.out, Below.refl _ _⟩
 case round =>
  obtain ⟨k, m, rfl, rfl, hk, HM, HBW⟩ := hrel
  have hTw := HT.out.below HBW.out
  have hk0 : (0 : Int) ≤ (k : Int) := by omega
  have hnat : ((k : Int)).toNat = k := by omega
  clear h1
  by_cases hlt : k < n
  · obtain ⟨x, hx⟩ : ∃ x, L[k]? = some x := ⟨_, List.getElem?_eq_getElem (by rw [hTw.2.1]; exact hlt)⟩
    obtain ⟨b, off, rfl, g0, g1, g2, g3, g4⟩ := pi_at (RowN.of_own hTw.2.2.1) hTw.2.1 k hlt x hx
    have hkn : (k : Int) < (n : Int) := by omega
    have hdr : L.drop k = x :: L.drop (k + 1) := drop_at hx
    have hxo := HT.out.2.2.2.2.2.2.2 x (List.mem_of_getElem? hx)
    have hgt := Flo.run_gt x.s.lo key hxo.1 hkey
    have hhas := hasS_any x.s key hxo hkey
    have hm := HM.out
    rw [hdr] at hm
    replace hm : R = (if Flo.flt key x.s.lo then m else pAtL key (L.drop (k + 1)) (if hasS x.s key then max m x.num else m)) := hm
    obtain ⟨G, hG⟩ : ∃ G, G = Flo.flt key x.s.lo := ⟨_, rfl⟩
    obtain ⟨H, hH⟩ : ∃ H, H = hasS x.s key := ⟨_, rfl⟩
    rw [← hG] at hgt hm
    rw [← hH] at hhas hm
    obtain ⟨⟨lo, hi, lop, hop⟩, num⟩ := x
    unfold Spn.agg at hhas
    simp only at g0 g1 g2 g3 g4 hgt hhas hm
    have HHAS := Lib.hid hhas
    clear hTw hx hdr hxo hG hH hhas
    obtain ⟨Y, hY⟩ : ∃ Y, Y = wr.alloc (.cells #[.float .f64 lo, .float .f64 hi, .bool lop, .bool hop, .int .i64 num] 184) := ⟨_, rfl⟩
    have hbY : Below w.heap.size w Y := hY ▸ below_alloc HBW.out _
    have hYB : Y.heap[wr.heap.size]? = some (.cells #[.float .f64 lo, .float .f64 hi, .bool lop, .bool hop, .int .i64 num] 184 (0, 0)) := hY ▸ heap_alloc_new wr _
    have HBY := Lib.hid hbY
    have HYB := Lib.hid hYB
    have HY := Lib.hid hY
    obtain ⟨a0, a1, a2, a3, a4⟩ := five_cells hYB
    clear hbY hYB hY
    cases G with
    | true =>
      have HM3 : Hid (R = m) := hm
      clear hm
      go_upto_region 5 with fail
      rw [← HY.out]
      go_wp2_with fail
      go_ret
      exact ⟨by rw [HM3.out]; rfl, HBY.out⟩
    | false =>
      cases H with
      | true =>
        have HM3 : Hid (R = pAtL key (L.drop (k + 1)) (max m num)) := hm
        clear hm
        go_upto_region 5 with fail
        rw [← HY.out]
        go_wp2_with fail
        refine (HHAS.out _).mono ?_
        rintro e w1 ⟨rfl, hb1⟩
        have HB1 := Lib.hid (below_then HBY.out hb1)
        have b4 := (below_cell hb1 _ (by rw [a4]; rfl)).trans a4
        clear hb1 a0 a1 a2 a3 a4
        go_wp2_with fail
        go_roundw
        case rel => exact ⟨k + 1, max m num, rfl, by go_num, by omega, HM3.out, HB1.out⟩
        case measure => simp [intOf]; omega
      | false =>
        have HM3 : Hid (R = pAtL key (L.drop (k + 1)) m) := hm
        clear hm
        go_upto_region 5 with fail
        rw [← HY.out]
        go_wp2_with fail
        refine (HHAS.out _).mono ?_
        rintro e w1 ⟨rfl, hb1⟩
        have HB1 := Lib.hid (below_then HBY.out hb1)
        clear hb1 a0 a1 a2 a3 a4
        go_wp2_with fail
        go_roundw
        case rel => exact ⟨k + 1, m, rfl, by go_num, by omega, HM3.out, HB1.out⟩
        case measure => simp [intOf]; omega
  · obtain rfl : k = n := by omega
    have hdr : L.drop k = [] := List.drop_of_length_le (by rw [hTw.2.1]; exact Nat.le_refl _)
    have hm := HM.out
    rw [hdr] at hm
    have HM3 : Hid (R = m) := hm
    clear hTw hdr hm
    go_wp2_with fail
    go_ret
    exact ⟨by rw [HM3.out]; rfl, HBW.out⟩
set_option maxHeartbeats 1600000 in
theorem vclear_any (base N most : Nat) (ae : Option Addr) (n cap : Nat) (L : List VI) (w : World) (hT : VT w base N most ae n cap L) :
 Calls Tryz.prog 219 #[.pointer (some ⟨N, 0, none⟩)] w fun e w' => e = .returned (.tuple #[]) ∧ VT w' base N most none 0 0 [] ∧ Only (VS N ae n cap) w w' := by
 have HT := Lib.hid hT
 have hf : w.frozen? ⟨N, 1, none⟩ = false := by simp [World.frozen?, hT.1]
 have h1 := hT.f1
 clear hT
 go_enter Tryz.func219, Tryz.ntmps219
 go_wp2_with fail
 go_end0
 obtain ⟨q1, q2, q3, q4, q5, q6, q7, q8⟩ := HT.out
 refine ⟨rfl, ⟨set_block (i := 1) q1 _, rfl, World.ownsRow_nil _ _ _ _, q4, ?_, Nat.zero_le _, q7, fun v hv => absurd hv (List.not_mem_nil)⟩, Only.of_grown (grown_set w N 1 _) fun g h _ => .inl (Option.some.inj h).symm⟩
 exact Nat.le_trans q5 (grown_set w N 1 _).size
set_option maxHeartbeats 1600000 in
theorem pclear_any (base N most : Nat) (ae : Option Addr) (n cap : Nat) (L : List PI) (w : World) (hT : PT w base N most ae n cap L) :
 Calls Tryz.prog 220 #[.pointer (some ⟨N, 0, none⟩)] w fun e w' => e = .returned (.tuple #[]) ∧ PT w' base N most none 0 0 [] ∧ Only (VS N ae n cap) w w' := by
 have HT := Lib.hid hT
 have hf : w.frozen? ⟨N, 1, none⟩ = false := by simp [World.frozen?, hT.1]
 have h1 := hT.f1
 clear hT
 go_enter Tryz.func220, Tryz.ntmps220
 go_wp2_with fail
 go_end0
 obtain ⟨q1, q2, q3, q4, q5, q6, q7, q8⟩ := HT.out
 refine ⟨rfl, ⟨set_block (i := 1) q1 _, rfl, World.ownsRow_nil _ _ _ _, q4, ?_, Nat.zero_le _, q7, fun v hv => absurd hv (List.not_mem_nil)⟩, Only.of_grown (grown_set w N 1 _) fun g h _ => .inl (Option.some.inj h).symm⟩
 exact Nat.le_trans q5 (grown_set w N 1 _).size
end Go.Proofs.YtpknmfmpiachkaaGreat
namespace Go.Proofs.YtpknmfmpiachkaaGreat
open Go.RowKit
structure Chg (J : Nat → Prop) (κ κ' : Nat → Nat) (w w' : World) : Prop where
 os : w'.os = w.os
 tape : w'.tape = w.tape
 output : w'.output = w.output
 size : w.heap.size ≤ w'.heap.size
 paint : ∀ g, g < w.heap.size → κ' g = κ g
 block : ∀ g, g < w.heap.size → ¬ J (κ g) → w'.heap[g]? = w.heap[g]?
theorem Chg.refl (J : Nat → Prop) (κ : Nat → Nat) (w : World) : Chg J κ κ w w := ⟨rfl, rfl, rfl, Nat.le_refl _, fun _ _ => rfl, fun _ _ _ => rfl⟩
theorem Chg.trans {J : Nat → Prop} {κ κ' κ'' : Nat → Nat} {a b c : World} (h : Chg J κ κ' a b) (k : Chg J κ' κ'' b c) : Chg J κ κ'' a c :=
 ⟨k.os.trans h.os, k.tape.trans h.tape, k.output.trans h.output, Nat.le_trans h.size k.size, fun g hg => (k.paint g (Nat.lt_of_lt_of_le hg h.size)).trans (h.paint g hg),
  fun g hg hn => (k.block g (Nat.lt_of_lt_of_le hg h.size) (by rw [h.paint g hg]; exact hn)).trans (h.block g hg hn)⟩
theorem Chg.mono {J J' : Nat → Prop} {κ κ' : Nat → Nat} {a b : World} (h : Chg J κ κ' a b) (hj : ∀ i, J i → J' i) : Chg J' κ κ' a b :=
 ⟨h.os, h.tape, h.output, h.size, h.paint, fun g hg hn => h.block g hg fun hi => hn (hj _ hi)⟩
theorem Chg.of_below {J : Nat → Prop} {κ : Nat → Nat} {a b : World} (h : Below a.heap.size a b) : Chg J κ κ a b := ⟨h.os, h.tape, h.output, h.size, fun _ _ => rfl, fun g hg _ => h.block g hg⟩
theorem Chg.drew {J : Nat → Prop} {κ κ' : Nat → Nat} {a b : World} (h : Chg J κ κ' a b) : Chg J κ κ' a b.drew := ⟨h.os, h.tape, h.output, h.size, h.paint, h.block⟩
theorem Chg.new {J : Nat → Prop} {κ κ' : Nat → Nat} {a b c : World} (h : Below a.heap.size a b) (k : Chg J κ κ' b c) : Chg J κ κ' a c := (Chg.of_below h).trans k
def tint (w : World) (κ : Nat → Nat) (i : Nat) (g : Nat) : Nat := if g < w.heap.size then κ g else i
theorem tint_old {w : World} {κ : Nat → Nat} {i g : Nat} (h : g < w.heap.size) : tint w κ i g = κ g := if_pos h
theorem tint_new {w : World} {κ : Nat → Nat} {i g : Nat} (h : w.heap.size ≤ g) : tint w κ i g = i := if_neg (by omega)
def TabAt (w : World) (κ : Nat → Nat) (i N most : Nat) (L : List VI) : Prop :=
 ∃ base ae n cap, VT w base N most ae n cap L ∧ κ N = i ∧ ∀ g, Value.ownBlock (.slice ae n cap) = some g → κ g = i
theorem VT.keep {w w' : World} {base N most ae n cap L} (h : VT w base N most ae n cap L) (hs : w.heap.size ≤ w'.heap.size) (hN : w'.heap[N]? = w.heap[N]?) (hg : ∀ g, Value.ownBlock (.slice ae n cap) = some g → w'.heap[g]? = w.heap[g]?) : VT w' base N most ae n cap L := by
 obtain ⟨h1, h2, h3, h4, h5, h6⟩ := h
 exact ⟨hN.trans h1, h2, own_keep h3 fun g hg' _ => hg g hg', h4, Nat.le_trans h5 hs, h6⟩
theorem TabAt.chg {w w' : World} {κ κ' : Nat → Nat} {i N most L} {J : Nat → Prop} (h : TabAt w κ i N most L) (hc : Chg J κ κ' w w') (hi : ¬ J i) : TabAt w' κ' i N most L := by
 obtain ⟨base, ae, n, cap, hT, hN, hg⟩ := h
 have hNl := lt_of_block hT.1
 refine ⟨base, ae, n, cap, hT.keep hc.size (hc.block N hNl (by rw [hN]; exact hi)) (fun g h => hc.block g (hT.2.2.1.lt g h).2 (by rw [hg g h]; exact hi)), ?_, fun g h => ?_⟩
 · rw [hc.paint N hNl, hN]
 · rw [hc.paint g (hT.2.2.1.lt g h).2, hg g h]
theorem TabAt.put {w w' : World} {κ : Nat → Nat} {i N most : Nat} {base : Nat} {ae : Option Addr} {n cap : Nat} {L' : List VI} {ae' : Option Addr} {n' cap' : Nat} (hN : κ N = i) (hNl : N < w.heap.size) (hg : ∀ g, Value.ownBlock (.slice ae n cap) = some g → κ g = i) (hgl : ∀ g, Value.ownBlock (.slice ae n cap) = some g → g < w.heap.size)
 (hT : VT w' base N most ae' n' cap' L') (ho : Only (VS N ae n cap) w w') (ha : Value.ownBlock (.slice ae' n' cap') = Value.ownBlock (.slice ae n cap) ∨ ∃ g, Value.ownBlock (.slice ae' n' cap') = some g ∧ w.heap.size ≤ g) :
 Chg (· = i) κ (tint w κ i) w w' ∧ TabAt w' (tint w κ i) i N most L' := by
 refine ⟨⟨ho.os, ho.tape, ho.output, ho.size, fun g hgs => tint_old hgs, fun g hgs hn => ho.block g hgs fun hv => ?_⟩, base, ae', n', cap', hT, ?_, fun g h => ?_⟩
 · rcases hv with rfl | hv
   · exact hn hN
   · exact hn (hg g hv)
 · rw [tint_old hNl, hN]
 · rcases ha with ha | ⟨g', h1, h2⟩
   · rw [ha] at h
     rw [tint_old (hgl g h), hg g h]
   · rw [h] at h1
     cases h1
     exact tint_new h2
def TPut (w : World) (κ : Nat → Nat) (i N most : Nat) (full : Bool) (L' : List VI) (e : Ending) (w' : World) : Prop :=
 e = .returned (.int .i64 (if full then 3 else 0)) ∧ ∃ κ', Chg (· = i) κ κ' w w' ∧ TabAt w' κ' i N most L'
def vDone (most : Nat) (L : List VI) (key : Nat) (num : Int) : List VI := if vFull most L key then L else vPut L key num
theorem VPut.tput {w w' : World} {κ : Nat → Nat} {i N most : Nat} {base : Nat} {ae : Option Addr} {n cap : Nat} {L L' : List VI} {e : Ending} (hN : κ N = i) (hg : ∀ g, Value.ownBlock (.slice ae n cap) = some g → κ g = i) (hT : VT w base N most ae n cap L) (h : VPut w base N most ae n cap L' e w') : TPut w κ i N most false L' e w' := by
 obtain ⟨he, ae', n', cap', h1, h2, h3⟩ := h
 exact ⟨he, _, TabAt.put hN (lt_of_block hT.1) hg (fun g h => (hT.2.2.1.lt g h).2) h1 h2 h3⟩
theorem put_any (κ : Nat → Nat) (i N most : Nat) (L : List VI) (hL : SortedV L) (key : Nat) (hk : KeyOk key) (num : Int) (hn1 : 1 ≤ num) (hn2 : num ≤ 1099511627776) (w : World) (hT : TabAt w κ i N most L) :
 Calls Tryz.prog 61 #[.pointer (some ⟨N, 0, none⟩), .float .f64 key, .int .i64 num] w (TPut w κ i N most (vFull most L key) (vDone most L key num)) := by
 obtain ⟨base, ae, n, cap, hV, hN, hg⟩ := hT
 have ht := hL.turns key
 unfold vDone
 rcases vPut_cases (L := L) (key := key) num with ⟨hh, x, hx, hc, he⟩ | ⟨hh, he⟩
 · have hf : vFull most L key = false := by unfold vFull; rw [hh]; rfl
   rw [hf, he]
   exact (vput_max base N most ae n cap L key hk.1 hk.2.1 num hn1 hn2 _ ht x hx hc w hV).mono fun e w' h => VPut.tput hN hg hV h
 · by_cases hfull : most = n
   · have hf : vFull most L key = true := by unfold vFull; rw [hh, hV.2.1, decide_eq_true hfull]; rfl
     rw [hf]
     subst hfull
     exact (vput_full base N most ae cap L key hk.1 hk.2.1 num hn1 hn2 _ ht hh w hV).mono fun e w' h => ⟨h.1, κ, Chg.of_below h.2, base, ae, most, cap, hV.below h.2, hN, hg⟩
   · have hf : vFull most L key = false := by unfold vFull; rw [hh, hV.2.1, decide_eq_false hfull]; rfl
     rw [hf, he]
     have hroom : n < most := by have := hV.2.2.2.2.2.1; omega
     exact (vput_ins base N most ae n cap L key hk.1 hk.2.1 num hn1 hn2 _ ht hh hroom w hV).mono fun e w' h => VPut.tput hN hg hV h
theorem at_any (κ : Nat → Nat) (i N most : Nat) (L : List VI) (hL : SortedV L) (key : Nat) (hk : key < 18446744073709551616) (w : World) (hT : TabAt w κ i N most L) :
 Calls Tryz.prog 101 #[.pointer (some ⟨N, 0, none⟩), .float .f64 key] w (RetBox w (.int .i64 (vAt L key))) := by
 obtain ⟨base, ae, n, cap, hV, _⟩ := hT
 exact vat_any base N most ae n cap L key hk _ (hL.turns key) w hV
theorem over_any (κ : Nat → Nat) (i N most : Nat) (L : List VI) (hL : SortedV L) (s : Spn) (hs : s.ok) (w : World) (hT : TabAt w κ i N most L) :
 Calls Tryz.prog 137 #[.pointer (some ⟨N, 0, none⟩), s.agg] w (RetBox w (.int .i64 (vOver L s))) := by
 obtain ⟨base, ae, n, cap, hV, _⟩ := hT
 exact vover_any base N most ae n cap L s hs _ (hL.turns _) w hV
theorem clear_any (κ : Nat → Nat) (i N most : Nat) (L : List VI) (w : World) (hT : TabAt w κ i N most L) :
 Calls Tryz.prog 219 #[.pointer (some ⟨N, 0, none⟩)] w fun e w' => e = .returned (.tuple #[]) ∧ ∃ κ', Chg (· = i) κ κ' w w' ∧ TabAt w' κ' i N most [] := by
 obtain ⟨base, ae, n, cap, hV, hN, hg⟩ := hT
 refine (vclear_any base N most ae n cap L w hV).mono fun e w' ⟨h1, h2, h3⟩ => ⟨h1, κ, ⟨h3.os, h3.tape, h3.output, h3.size, fun _ _ => rfl, fun g hgs hn => h3.block g hgs fun hv => ?_⟩, base, none, 0, 0, h2, hN, fun g h => absurd h (by simp [Value.ownBlock])⟩
 rcases hv with rfl | hv
 · exact hn hN
 · exact hn (hg g hv)
def PTabAt (w : World) (κ : Nat → Nat) (i N most : Nat) (L : List PI) : Prop :=
 ∃ base ae n cap, PT w base N most ae n cap L ∧ κ N = i ∧ ∀ g, Value.ownBlock (.slice ae n cap) = some g → κ g = i
theorem PT.keep {w w' : World} {base N most ae n cap L} (h : PT w base N most ae n cap L) (hs : w.heap.size ≤ w'.heap.size) (hN : w'.heap[N]? = w.heap[N]?) (hg : ∀ g, Value.ownBlock (.slice ae n cap) = some g → w'.heap[g]? = w.heap[g]?) : PT w' base N most ae n cap L := by
 obtain ⟨h1, h2, h3, h4, h5, h6⟩ := h
 exact ⟨hN.trans h1, h2, own_keep h3 fun g hg' _ => hg g hg', h4, Nat.le_trans h5 hs, h6⟩
theorem PTabAt.chg {w w' : World} {κ κ' : Nat → Nat} {i N most L} {J : Nat → Prop} (h : PTabAt w κ i N most L) (hc : Chg J κ κ' w w') (hi : ¬ J i) : PTabAt w' κ' i N most L := by
 obtain ⟨base, ae, n, cap, hT, hN, hg⟩ := h
 have hNl := lt_of_block hT.1
 refine ⟨base, ae, n, cap, hT.keep hc.size (hc.block N hNl (by rw [hN]; exact hi)) (fun g h => hc.block g (hT.2.2.1.lt g h).2 (by rw [hg g h]; exact hi)), ?_, fun g h => ?_⟩
 · rw [hc.paint N hNl, hN]
 · rw [hc.paint g (hT.2.2.1.lt g h).2, hg g h]
def TPPut (w : World) (κ : Nat → Nat) (i N most : Nat) (full : Bool) (L' : List PI) (e : Ending) (w' : World) : Prop :=
 e = .returned (.int .i64 (if full then 3 else 0)) ∧ ∃ κ', Chg (· = i) κ κ' w w' ∧ PTabAt w' κ' i N most L'
def pDone (most : Nat) (L : List PI) (s : Spn) (num : Int) : List PI := if pFull most L s then L else pPut L s num
theorem PPut.tput {w w' : World} {κ : Nat → Nat} {i N most : Nat} {base : Nat} {ae : Option Addr} {n cap : Nat} {L L' : List PI} {e : Ending} (hN : κ N = i) (hg : ∀ g, Value.ownBlock (.slice ae n cap) = some g → κ g = i) (hT : PT w base N most ae n cap L) (h : PPut w base N most ae n cap L' e w') : TPPut w κ i N most false L' e w' := by
 obtain ⟨he, ae', n', cap', h1, ho, ha⟩ := h
 have hNl := lt_of_block hT.1
 refine ⟨he, tint w κ i, ⟨ho.os, ho.tape, ho.output, ho.size, fun g hgs => tint_old hgs, fun g hgs hn => ho.block g hgs fun hv => ?_⟩, base, ae', n', cap', h1, ?_, fun g h => ?_⟩
 · rcases hv with rfl | hv
   · exact hn hN
   · exact hn (hg g hv)
 · rw [tint_old hNl, hN]
 · rcases ha with ha | ⟨g', h1, h2⟩
   · rw [ha] at h
     rw [tint_old (hT.2.2.1.lt g h).2, hg g h]
   · rw [h] at h1
     cases h1
     exact tint_new h2
theorem pput_any (κ : Nat → Nat) (i N most : Nat) (L : List PI) (hL : SortedP L) (s : Spn) (hs : GoodS s) (num : Int) (hn1 : 1 ≤ num) (hn2 : num ≤ 1099511627776) (w : World) (hT : PTabAt w κ i N most L) :
 Calls Tryz.prog 62 #[.pointer (some ⟨N, 0, none⟩), s.agg, .int .i64 num] w (TPPut w κ i N most (pFull most L s) (pDone most L s num)) := by
 obtain ⟨base, ae, n, cap, hV, hN, hg⟩ := hT
 have ht := hL.turns hs
 have hcn := hs.canon
 have hne : emptyS (canonS s) = false := by unfold emptyS; rw [hcn, hcn]; exact hs.lop
 have ht' : Turns (fun v : PI => cmpS v.s (canonS s)) L (ppos L s) := by rw [hcn]; exact ht
 unfold pDone Spn.agg
 rcases pPut_cases (L := L) (s := s) num with ⟨hh, x, hx, hc, he⟩ | ⟨hh, he⟩
 · have hf : pFull most L s = false := by unfold pFull; rw [hh]; rfl
   rw [hf, he]
   exact (pput_max base N most ae n cap L s hs.ok hne num hn1 hn2 _ ht' x hx (by rw [hcn]; exact hc) w hV).mono fun e w' h => PPut.tput hN hg hV h
 · have hh' : foundAt (fun v : PI => cmpS v.s (canonS s)) L (ppos L s) = false := by rw [hcn]; exact hh
   by_cases hfull : most = n
   · have hf : pFull most L s = true := by unfold pFull; rw [hh, hV.2.1, decide_eq_true hfull]; rfl
     rw [hf]
     exact (pput_full base N most ae n cap L s hs.ok hne num hn1 hn2 _ ht' hh' hfull.symm w hV).mono fun e w' h => ⟨h.1, κ, Chg.of_below h.2, base, ae, n, cap, hV.below h.2, hN, hg⟩
   · have hf : pFull most L s = false := by unfold pFull; rw [hh, hV.2.1, decide_eq_false hfull]; rfl
     rw [hf, he]
     have hroom : n < most := by have := hV.2.2.2.2.2.1; omega
     have hq := pput_ins base N most ae n cap L s hs.ok hne num hn1 hn2 _ ht' hh' hroom w hV
     rw [hcn] at hq
     exact hq.mono fun e w' h => PPut.tput hN hg hV h
theorem ptAt_any (κ : Nat → Nat) (i N most : Nat) (L : List PI) (key : Nat) (hk : key < 18446744073709551616) (w : World) (hT : PTabAt w κ i N most L) :
 Calls Tryz.prog 102 #[.pointer (some ⟨N, 0, none⟩), .float .f64 key] w (RetBox w (.int .i64 (pAtL key L 0))) := by
 obtain ⟨base, ae, n, cap, hV, _⟩ := hT
 exact pat_any base N most ae n cap L key hk w hV
theorem ptClear_any (κ : Nat → Nat) (i N most : Nat) (L : List PI) (w : World) (hT : PTabAt w κ i N most L) :
 Calls Tryz.prog 220 #[.pointer (some ⟨N, 0, none⟩)] w fun e w' => e = .returned (.tuple #[]) ∧ ∃ κ', Chg (· = i) κ κ' w w' ∧ PTabAt w' κ' i N most [] := by
 obtain ⟨base, ae, n, cap, hV, hN, hg⟩ := hT
 refine (pclear_any base N most ae n cap L w hV).mono fun e w' ⟨h1, h2, h3⟩ => ⟨h1, κ, ⟨h3.os, h3.tape, h3.output, h3.size, fun _ _ => rfl, fun g hgs hn => h3.block g hgs fun hv => ?_⟩, base, none, 0, 0, h2, hN, fun g h => absurd h (by simp [Value.ownBlock])⟩
 rcases hv with rfl | hv
 · exact hn hN
 · exact hn (hg g hv)
structure RecV where
 num : Int
 m : SubM
 out : Bool
def RecV.cells (r : RecV) : List Value := [.int .i64 r.num, .int .i64 r.m.s.session, .int .i64 r.m.s.seq, .int .i64 r.m.s.snap, .slice r.m.ra r.m.s.reads.length r.m.rc, .slice r.m.sa r.m.s.spans.length r.m.sc, .slice r.m.wa r.m.s.writes.length r.m.wc, .bool r.out]
structure PartsAt (w : World) (κ : Nat → Nat) (j : Nat) (m : SubM) : Prop where
 ok : m.ok w
 ra : ∀ b off, m.ra = some ⟨b, off, none⟩ → 0 < m.s.reads.length → κ b = j
 sa : ∀ b off, m.sa = some ⟨b, off, none⟩ → 0 < m.s.spans.length → κ b = j
 wa : ∀ b off, m.wa = some ⟨b, off, none⟩ → 0 < m.s.writes.length → κ b = j
theorem RowN.keep {w w' : World} {a : Option Addr} {size n : Nat} {vs : List Value} (h : RowN w a size n vs) (hk : ∀ b off, a = some ⟨b, off, none⟩ → 0 < n → b < w.heap.size → w'.heap[b]? = w.heap[b]?) : RowN w' a size n vs := by
 refine ⟨h.1, fun hn => ?_⟩
 obtain ⟨b, off, ha, hc⟩ := h.2 hn
 refine ⟨b, off, ha, fun j u hu => ?_⟩
 have h1 := hc j u hu
 rw [World.cell?_of_block (hk b off ha hn (World.block_lt_of_cell? w _ h1))]
 exact h1
theorem RowN.lt {w : World} {a : Option Addr} {size n : Nat} {vs : List Value} (h : RowN w a size n vs) (hz : 0 < size) (b off : Nat) (ha : a = some ⟨b, off, none⟩) (hn : 0 < n) : b < w.heap.size := by
 obtain ⟨b', off', ha', hc⟩ := h.2 hn
 rw [ha] at ha'
 cases ha'
 have hl : 0 < vs.length := by rw [h.1]; exact Nat.mul_pos hn hz
 exact World.block_lt_of_cell? w _ (hc 0 _ (List.getElem?_eq_getElem hl))
theorem PartsAt.chg {w w' : World} {κ κ' : Nat → Nat} {j : Nat} {m : SubM} {J : Nat → Prop} (h : PartsAt w κ j m) (hc : Chg J κ κ' w w') (hj : ¬ J j) : PartsAt w' κ' j m := by
 obtain ⟨⟨h1, h2, h3, h4, h5, h6, h7⟩, hr, hs, hw⟩ := h
 refine ⟨⟨h1, h2.keep fun b off ha hn hb => hc.block b hb (by rw [hr b off ha hn]; exact hj), h3.keep fun b off ha hn hb => hc.block b hb (by rw [hs b off ha hn]; exact hj), h4.keep fun b off ha hn hb => hc.block b hb (by rw [hw b off ha hn]; exact hj), h5, h6, h7⟩, ?_, ?_, ?_⟩
 · intro b off ha hn
   rw [hc.paint b (h2.lt (by decide) b off ha hn), hr b off ha hn]
 · intro b off ha hn
   rw [hc.paint b (h3.lt (by decide) b off ha hn), hs b off ha hn]
 · intro b off ha hn
   rw [hc.paint b (h4.lt (by decide) b off ha hn), hw b off ha hn]
def RecsAt (w : World) (κ : Nat → Nat) (i j : Nat) (a : Option Addr) (n cap : Nat) (l : List RecV) : Prop :=
 l.length = n ∧ (∃ base, base ≤ w.heap.size ∧ w.ownsRow base 77 8 (.slice a n cap) n (l.flatMap RecV.cells)) ∧ (∀ g, Value.ownBlock (.slice a n cap) = some g → κ g = i) ∧ ∀ r ∈ l, PartsAt w κ j r.m
theorem RecsAt.chg {w w' : World} {κ κ' : Nat → Nat} {i j : Nat} {a : Option Addr} {n cap : Nat} {l : List RecV} {J : Nat → Prop} (h : RecsAt w κ i j a n cap l) (hc : Chg J κ κ' w w') (hi : ¬ J i) (hj : ¬ J j) : RecsAt w' κ' i j a n cap l := by
 obtain ⟨h1, ⟨base, hb, h2⟩, h3, h4⟩ := h
 refine ⟨h1, ⟨base, Nat.le_trans hb hc.size, own_keep h2 fun g hg hl => hc.block g hl (by rw [h3 g hg]; exact hi)⟩, fun g hg => ?_, fun r hr => (h4 r hr).chg hc hj⟩
 rw [hc.paint g (h2.lt g hg).2, h3 g hg]
structure CertV where
 keep : Nat
 raw : Int
 old : Nat
 count : Int
 horizon : Int
 recs : List RecV
 wrote : List VI
 wroteOut : List VI
 read : List VI
 spans : List PI
structure CertV.Ok (c : CertV) : Prop where
 keep : 1 ≤ c.keep ∧ c.keep ≤ 32
 old : c.old ≤ 64
 count : 0 ≤ c.count ∧ c.count ≤ 1099511627776
 len : c.recs.length ≤ c.keep
 wrote : SortedV c.wrote
 wroteOut : SortedV c.wroteOut
 read : SortedV c.read
 spans : SortedP c.spans
 right : ∀ r ∈ c.recs, r.m.s.Right
 num : ∀ r ∈ c.recs, 1 ≤ r.num ∧ r.num ≤ c.count
def certCells (c : CertV) (a : Option Addr) (n cap N1 N2 N3 N4 : Nat) : Array Value :=
 #[.int .i64 (c.keep : Nat), .int .i64 c.raw, .int .i64 c.count, .int .i64 c.horizon, .slice a n cap, .pointer (some ⟨N1, 0, none⟩), .pointer (some ⟨N2, 0, none⟩), .pointer (some ⟨N3, 0, none⟩), .pointer (some ⟨N4, 0, none⟩)]
def CertAt (w : World) (κ : Nat → Nat) (k A : Nat) (c : CertV) : Prop :=
 ∃ N1 N2 N3 N4 a n cap, w.heap[A]? = some (.cells (certCells c a n cap N1 N2 N3 N4) 70 (0, 0)) ∧ κ A = k ∧ TabAt w κ (k + 1) N1 c.old c.wrote ∧ TabAt w κ (k + 2) N2 c.old c.wroteOut ∧ TabAt w κ (k + 3) N3 c.old c.read ∧ PTabAt w κ (k + 4) N4 c.old c.spans ∧ RecsAt w κ (k + 5) (k + 6) a n cap c.recs
theorem CertAt.chg {w w' : World} {κ κ' : Nat → Nat} {k A : Nat} {c : CertV} {J : Nat → Prop} (h : CertAt w κ k A c) (hc : Chg J κ κ' w w') (hj : ∀ i, J i → i < k ∨ k + 6 < i) : CertAt w' κ' k A c := by
 obtain ⟨N1, N2, N3, N4, a, n, cap, h0, hA, h1, h2, h3, h4, h5⟩ := h
 have hAl := lt_of_block h0
 refine ⟨N1, N2, N3, N4, a, n, cap, (hc.block A hAl ?_).trans h0, (hc.paint A hAl).trans hA, h1.chg hc ?_, h2.chg hc ?_, h3.chg hc ?_, h4.chg hc ?_, h5.chg hc ?_ ?_⟩
 · intro hi
   have := hj _ hi
   omega
 all_goals
  intro hi
  have := hj _ hi
  omega
end Go.Proofs.YtpknmfmpiachkaaGreat
