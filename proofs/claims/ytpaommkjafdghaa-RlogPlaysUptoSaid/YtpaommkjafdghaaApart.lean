/- Two logs beside each other; what is dropped changes nothing of what is left. -/
import Derived.Test.YtpaommkjafdghaaMade
import Derived.Test.YtpaommkjafdghaaESame
namespace Go.Proofs.Ytpaommkjafdghaa
open Go.RowKit

/-- the blocks that a log has -/
def LogOn (N : Nat) (c : Cf) (es : List En) (ae : Option Addr) (g : Nat) : Prop :=
  g = N ∨ Value.ownBlock (.slice c.v.a c.v.len c.v.cap) = some g ∨ Value.ownBlock (.slice c.l.a c.l.len c.l.cap) = some g ∨ Value.ownBlock (.slice ae 0 0) = some g ∨ ∃ e ∈ es, Value.ownBlock (.slice e.s.a e.s.len e.s.cap) = some g
theorem LogAt.on {w : World} {base N : Nat} {ix tm : Int} {c : Cf} {es : List En} {ae : Option Addr} {n cap g : Nat} (h : LogAt w base N ix tm c es ae n cap) (hg : LogOn N c es ae g) : base ≤ g ∧ g < w.heap.size := by
  rcases hg with rfl | hg | hg | hg | ⟨e, he, hg⟩
  · exact ⟨h.lo, lt_of_block h.cell⟩
  · exact h.vo.lt g hg
  · exact h.le.lt g hg
  · exact h.row.lt g ((own_addr ae n cap 0 0).trans hg)
  · exact (h.own e he).lt g hg
theorem LogAt.keepOn {w w' : World} {base N : Nat} {ix tm : Int} {c : Cf} {es : List En} {ae : Option Addr} {n cap : Nat} (h : LogAt w base N ix tm c es ae n cap) (hk : ∀ g, LogOn N c es ae g → g < w.heap.size → w'.heap[g]? = w.heap[g]?) : LogAt w' base N ix tm c es ae n cap :=
  ⟨h.lo, (hk N (.inl rfl) (lt_of_block h.cell)).trans h.cell, own_keep h.vo fun g hg hl => hk g (.inr (.inl hg)) hl, own_keep h.le fun g hg hl => hk g (.inr (.inr (.inl hg))) hl, h.len,
    own_keep h.row fun g hg hl => hk g (.inr (.inr (.inr (.inl ((own_addr ae 0 0 n cap).trans hg))))) hl, fun v hv => own_keep (h.own v hv) fun g hg hl => hk g (.inr (.inr (.inr (.inr ⟨v, hv, hg⟩)))) hl⟩
/-- a log lies off another one's block and row -/
def LogOff (N : Nat) (c : Cf) (es : List En) (ae : Option Addr) (N' : Nat) (ae' : Option Addr) : Prop := ∀ g, LogOn N c es ae g → Off N' ae' g
theorem LogAt.beside {w w' : World} {base N N' : Nat} {ix tm : Int} {c : Cf} {es : List En} {ae ao ao' : Option Addr} {n cap : Nat} (h : LogAt w base N ix tm c es ae n cap) (hs : NStep w w' N' ao ao') (ha : LogOff N c es ae N' ao) : LogAt w' base N ix tm c es ae n cap :=
  h.keepOn fun g hg hl => hs.block g hl (ha g hg).1 (ha g hg).2
theorem LogOn.append {w w' : World} {N : Nat} {c : Cf} {es vs : List En} {ae ae' : Option Addr} {g : Nat} (hs : NStep w w' N ae ae') (hn : NewE w.heap.size vs) (hg : LogOn N c (es ++ vs) ae' g) : LogOn N c es ae g ∨ w.heap.size ≤ g := by
  rcases hg with rfl | hg | hg | hg | ⟨e, he, hg⟩
  · exact .inl (.inl rfl)
  · exact .inl (.inr (.inl hg))
  · exact .inl (.inr (.inr (.inl hg)))
  · rcases hs.row g hg with h | h
    · exact .inl (.inr (.inr (.inr (.inl h))))
    · exact .inr h
  · rcases List.mem_append.1 he with he | he
    · exact .inl (.inr (.inr (.inr (.inr ⟨e, he, hg⟩))))
    · exact .inr (hn e he g hg)
/-- what a step of a log adds lies off another one -/
theorem LogOff.step {w w' : World} {base' N N' : Nat} {ix tm : Int} {c c' : Cf} {es es' vs : List En} {ae ae' ao : Option Addr} {n' cap' : Nat} (ha : LogOff N c es ae N' ao) (hl : LogAt w base' N' ix tm c' es' ao n' cap') (hs : NStep w w' N ae ae') (hn : NewE w.heap.size vs) : LogOff N c (es ++ vs) ae' N' ao := fun g hg => by
  rcases LogOn.append hs hn hg with h | h
  · exact ha g h
  · exact ⟨fun e => by have := lt_of_block hl.cell; omega, fun e => by have := (hl.on (.inr (.inr (.inr (.inl e))))).2; omega⟩
theorem LogOff.other {w w' : World} {base' N N' : Nat} {ix tm : Int} {c' : Cf} {es' : List En} {ae ae' ao : Option Addr} {n' cap' : Nat} (ha : LogOff N' c' es' ao N ae) (hl : LogAt w base' N' ix tm c' es' ao n' cap') (hs : NStep w w' N ae ae') : LogOff N' c' es' ao N ae' := fun g hg =>
  ⟨(ha g hg).1, fun e => by
    rcases hs.row g e with h | h
    · exact (ha g hg).2 h
    · have := (hl.on hg).2; omega⟩
theorem LogOff.first {w : World} {base' N N' : Nat} {ix' tm' : Int} {c c' : Cf} {n' cap' : Nat} (h' : LogAt w base' N' ix' tm' c' [] none n' cap') (hlt : ∀ g, LogOn N c [] none g → g < base') : LogOff N c [] none N' none ∧ LogOff N' c' [] none N none := by
  refine ⟨fun g hg => ⟨?_, fun e => by cases e⟩, fun g hg => ⟨?_, fun e => by cases e⟩⟩
  · have := hlt g hg
    have := h'.lo
    omega
  · have := hlt N (.inl rfl)
    have := (h'.on hg).1
    omega

def AllR (es : List En) : Prop := ∀ e ∈ es, rightE e.ix e.tm e.kd e.s.bs = true
theorem AllR.append {es us vs : List En} {i t : Int} (h : AllR es) (h0 : appendOf i t us = 0) (hs : vs.map En.says = us.map En.says) : AllR (es ++ vs) := fun e he => by
  rcases List.mem_append.1 he with he | he
  · exact h e he
  · obtain ⟨k, hk⟩ := List.getElem?_of_mem he
    obtain ⟨u, hu, hsay⟩ := says_at hs k e hk
    have := (appendOf_idx us i t h0 k u hu).2
    simp only [En.says, Prod.mk.injEq] at hsay
    rw [hsay.1, hsay.2.1, hsay.2.2.1, hsay.2.2.2]
    exact this
theorem Sound.few {ix tm : Int} {es : List En} (h : Sound ix tm es) (hr : AllR es) : es.length ≤ 1099511627776 := by
  cases hl : es.length with
  | zero => omega
  | succ m =>
    obtain ⟨e, he⟩ : ∃ e, es[m]? = some e := ⟨_, List.getElem?_eq_getElem (by omega)⟩
    have h1 := h.idx m e he
    have h2 := (rightE_iff.1 (hr e (List.mem_of_getElem? he))).2.2.1
    have h3 := h.rx
    omega
theorem AllR.small {w : World} {base N : Nat} {ix tm : Int} {c : Cf} {es : List En} {ae : Option Addr} {n cap : Nat} (h : AllR es) (hl : LogAt w base N ix tm c es ae n cap) : ∀ e ∈ es, e.s.len ≤ 140737488355328 := fun e he => by
  have h1 := (rightE_iff.1 (h e he)).2.2.2.2.2.2.2
  have h2 := (hl.own e he).row.1
  omega

theorem last_drop {ix tm : Int} {es : List En} (h : Sound ix tm es) (to : Int) (h0 : ix ≤ to) (h1 : to ≤ ix + es.length) : lastOf to (termOf ix tm es to).1 (es.drop (to - ix).toNat) = lastOf ix tm es := by
  by_cases hd : (to - ix).toNat < es.length
  · unfold lastOf
    rw [List.getLast?_drop, if_neg (by omega)]
    cases hl : es.getLast? with
    | some e => rfl
    | none => rw [List.getLast?_eq_none_iff] at hl; subst hl; simp at hd
  · have he : to = ix + es.length := by omega
    rw [List.drop_of_length_le (by omega)]
    unfold termOf
    rw [if_neg (by omega)]
    cases hl : es.length with
    | zero =>
      rw [List.length_eq_zero_iff] at hl
      subst hl
      simp at he
      subst he
      simp [lastOf]
    | succ m =>
      rw [if_neg (by omega), show (to - ix - 1).toNat = m from by omega]
      obtain ⟨e, hm⟩ : ∃ e, es[m]? = some e := ⟨_, List.getElem?_eq_getElem (by omega)⟩
      have h2 := h.idx m e hm
      have hg : es.getLast? = some e := by rw [List.getLast?_eq_getElem?, hl]; exact hm
      rw [hm]
      unfold lastOf
      rw [hg]
      simp only [List.getLast?_nil, Option.map_some, Option.getD_some, Prod.mk.injEq, and_true]
      omega
theorem term_drop {ix tm : Int} {es : List En} (to at' : Int) (h0 : ix ≤ to) (h1 : to ≤ ix + es.length) (h2 : to ≤ at') : termOf to (termOf ix tm es to).1 (es.drop (to - ix).toNat) at' = termOf ix tm es at' := by
  have hl : (es.drop (to - ix).toNat).length = es.length - (to - ix).toNat := List.length_drop
  by_cases h3 : at' > ix + es.length
  · rw [termOf, if_pos (by rw [hl]; omega), termOf, if_pos (by omega)]
  by_cases h4 : at' = to
  · subst h4
    rw [termOf, if_neg (by rw [hl]; omega), if_pos rfl]
    unfold termOf
    rw [if_neg (by omega)]
    split <;> rfl
  · rw [termOf, if_neg (by rw [hl]; omega), if_neg h4, termOf, if_neg (by omega), if_neg (by omega), List.getElem?_drop, show (to - ix).toNat + (at' - to - 1).toNat = (at' - ix - 1).toNat from by omega]
theorem term_in {ix tm : Int} {es : List En} (to : Int) (h0 : ix ≤ to) (h1 : to ≤ ix + es.length) : (termOf ix tm es to).2 = true := by
  unfold termOf
  rw [if_neg (by omega)]
  split <;> rfl
theorem find_congr {α : Type} {p q : α → Bool} {l : List α} (h : ∀ x ∈ l, p x = q x) : l.find? p = l.find? q := by
  induction l with
  | nil => rfl
  | cons x r ih =>
    rw [List.find?_cons, List.find?_cons, h x (List.mem_cons_self ..), ih fun y hy => h y (List.mem_cons_of_mem _ hy)]
theorem conf_drop {ix tm : Int} {es : List En} (h : Sound ix tm es) (cf : List Int × List Int) (to at' : Int) (h0 : ix ≤ to) (h2 : to ≤ at') : (confAtOf to (confAtOf ix cf es to).1 (es.drop (to - ix).toNat) at').1 = (confAtOf ix cf es at').1 := by
  obtain ⟨d, hd⟩ : ∃ d, d = (to - ix).toNat := ⟨_, rfl⟩
  rw [← hd]
  have hes : es.reverse = (es.drop d).reverse ++ (es.take d).reverse := by rw [← List.reverse_append, List.take_append_drop]
  have htake : ∀ e ∈ (es.take d).reverse, gives at' e = gives to e := fun e he => by
    rw [List.mem_reverse] at he
    obtain ⟨k, hk⟩ := List.getElem?_of_mem he
    rw [List.getElem?_take] at hk
    split at hk
    · have := h.idx k e hk
      simp only [gives]
      rw [decide_eq_true (show e.ix ≤ at' by omega), decide_eq_true (show e.ix ≤ to by omega)]
    · cases hk
  have hdrop : (es.drop d).reverse.find? (gives to) = none := by
    rw [List.find?_eq_none]
    intro e he
    rw [List.mem_reverse] at he
    obtain ⟨k, hk⟩ := List.getElem?_of_mem he
    rw [List.getElem?_drop] at hk
    have := h.idx _ e hk
    simp only [gives, Bool.and_eq_true, decide_eq_true_iff]
    omega
  have h3 : confAtOf ix cf es to = (match (es.take d).reverse.find? (gives to) with
    | none => (cf, ix)
    | some e => ((loadOf e.s.bs).getD ([], []), e.ix)) := by
    unfold confAtOf
    rw [hes, List.find?_append, hdrop, Option.none_or]
    rfl
  have h4 : confAtOf ix cf es at' = (match ((es.drop d).reverse.find? (gives at')).or ((es.take d).reverse.find? (gives to)) with
    | none => (cf, ix)
    | some e => ((loadOf e.s.bs).getD ([], []), e.ix)) := by
    unfold confAtOf
    rw [hes, List.find?_append, find_congr htake]
    rfl
  rw [h3, h4]
  unfold confAtOf
  cases (es.drop d).reverse.find? (gives at') with
  | some e => rfl
  | none =>
    rw [Option.none_or]
theorem entries_drop {ix : Int} {es : List En} (to fr most : Int) (h0 : ix ≤ to) (h1 : to ≤ ix + es.length) (h2 : to + 1 ≤ fr) : entriesOf to (es.drop (to - ix).toNat) fr most = entriesOf ix es fr most := by
  have hl : (es.drop (to - ix).toNat).length = es.length - (to - ix).toNat := List.length_drop
  have hm1 : max fr (to + 1) = fr := by omega
  have hm2 : max fr (ix + 1) = fr := by omega
  unfold entriesOf
  simp only
  rw [hm1, hm2]
  by_cases hc : ix + es.length < fr ∨ most ≤ 0
  · rw [if_pos (.inr (by rw [hl]; omega)), if_pos (.inr hc)]
  · have hne : es ≠ [] := fun e => hc (.inl (by rw [e]; simp; rw [e] at h1; simp at h1; omega))
    have hne2 : es.drop (to - ix).toNat ≠ [] := fun e => by
      have := congrArg List.length e
      rw [hl, List.length_nil] at this
      omega
    rw [if_neg (by rw [hl]; intro h; rcases h with h | h; exact hne2 h; omega), if_neg (by intro h; rcases h with h | h; exact hne h; exact hc h), List.drop_drop, show (to - ix).toNat + (fr - to - 1).toNat = (fr - ix - 1).toNat from by omega]

theorem says_len {es fs : List En} (h : es.map En.says = fs.map En.says) : es.length = fs.length := by
  have := congrArg List.length h
  rwa [List.length_map, List.length_map] at this
theorem last_says {es fs : List En} (h : es.map En.says = fs.map En.says) (ix tm : Int) : lastOf ix tm es = lastOf ix tm fs := by
  have h1 : es.getLast?.map En.says = fs.getLast?.map En.says := by rw [← List.getLast?_map, ← List.getLast?_map, h]
  unfold lastOf
  cases he : es.getLast? <;> cases hf : fs.getLast? <;> rw [he, hf] at h1
  · cases h1
  · cases h1
  · injection h1 with h1
    simp only [En.says, Prod.mk.injEq] at h1
    simp only [h1.1, h1.2.1]
theorem term_says {es fs : List En} (h : es.map En.says = fs.map En.says) (ix tm i : Int) : termOf ix tm es i = termOf ix tm fs i := by
  have hg : ∀ k : Nat, es[k]?.map En.tm = fs[k]?.map En.tm := fun k => by
    have h1 : es[k]?.map En.says = fs[k]?.map En.says := by rw [← List.getElem?_map, ← List.getElem?_map, h]
    have h2 : ∀ l : List En, l[k]?.map En.tm = (l[k]?.map En.says).map (fun p => p.2.1) := fun l => by rw [Option.map_map]; rfl
    rw [h2, h2, h1]
  unfold termOf
  rw [says_len h, hg]
theorem conf_says {es fs : List En} (h : es.map En.says = fs.map En.says) (ix : Int) (cf : List Int × List Int) (i : Int) : confAtOf ix cf es i = confAtOf ix cf fs i := by
  have hf : ∀ l : List En, (l.reverse.find? (gives i)).map En.says = (l.map En.says).reverse.find? (fun p => decide (p.2.2.1 = 2) && decide (p.1 ≤ i)) := fun l => by
    rw [← List.map_reverse, List.find?_map]
    rfl
  have h1 : (es.reverse.find? (gives i)).map En.says = (fs.reverse.find? (gives i)).map En.says := by rw [hf, hf, h]
  unfold confAtOf
  cases he : es.reverse.find? (gives i) <;> cases hf : fs.reverse.find? (gives i) <;> rw [he, hf] at h1
  · cases h1
  · cases h1
  · injection h1 with h1
    simp only [En.says, Prod.mk.injEq] at h1
    simp only [h1.1, h1.2.2.2]
theorem entries_says {es fs : List En} (h : es.map En.says = fs.map En.says) (ix fr most : Int) : (entriesOf ix es fr most).map En.says = (entriesOf ix fs fr most).map En.says := by
  have hn : (es = []) ↔ (fs = []) := by
    rw [← List.length_eq_zero_iff, says_len h, List.length_eq_zero_iff]
  unfold entriesOf
  simp only
  rw [says_len h]
  by_cases hc : fs = [] ∨ ix + fs.length < max fr (ix + 1) ∨ most ≤ 0
  · rw [if_pos hc, if_pos (by rw [hn]; exact hc)]
  · rw [if_neg hc, if_neg (by rw [hn]; exact hc), List.map_take, List.map_drop, h, List.map_take, List.map_drop]
theorem Sound.drop {ix tm : Int} {es : List En} (h : Sound ix tm es) (hr : AllR es) (to : Int) (h0 : ix ≤ to) (h1 : to ≤ ix + es.length) : Sound to (termOf ix tm es to).1 (es.drop (to - ix).toNat) := by
  have hx := h.rx
  refine ⟨⟨by omega, ?_⟩, ?_, fun k e he => ?_⟩
  · cases hl : es.length with
    | zero => omega
    | succ m =>
      obtain ⟨e, hm⟩ : ∃ e, es[m]? = some e := ⟨_, List.getElem?_eq_getElem (by omega)⟩
      have h2 := h.idx m e hm
      have h3 := (rightE_iff.1 (hr e (List.mem_of_getElem? hm))).2.2.1
      omega
  · unfold termOf
    rw [if_neg (by omega)]
    split
    · exact h.rt
    · cases hk : es[(to - ix - 1).toNat]? with
      | none => simp
      | some e =>
        have h3 := (rightE_iff.1 (hr e (List.mem_of_getElem? hk))).2.2.2
        simp only [Option.map_some, Option.getD_some]
        omega
  · rw [List.getElem?_drop] at he
    have := h.idx _ e he
    omega
theorem AllR.drop {es : List En} (h : AllR es) (d : Nat) : AllR (es.drop d) := fun e he => h e (List.mem_of_mem_drop he)
/-- what is loaded is small -/
theorem readNs_len : ∀ (k : Nat) (bs : List UInt8) (acc v : List Int) (r : List UInt8), readNs k bs acc = some (v, r) → v.length = acc.length + k
  | 0, bs, acc, v, r, h => by
    rw [readNs] at h
    injection h with h
    injection h with h1 _
    rw [h1]
    rfl
  | k + 1, bs, acc, v, r, h => by
    rw [readNs] at h
    split at h
    · cases h
    · have := readNs_len k _ _ v r h
      rw [List.length_append] at this
      simp at this
      omega
theorem readGrp_len {bs r : List UInt8} {v : List Int} (h : readGrp bs = some (v, r)) : v.length ≤ 7 := by
  unfold readGrp at h
  split at h
  · cases h
  · rename_i n r' hg
    have h1 := getCount_range hg
    have := readNs_len _ _ _ _ _ h
    simp at this
    omega
theorem readFin_is {v l v' l' : List Int} {r r' : List UInt8} (h : readFin v l r = some ((v', l'), r')) : v' = v ∧ l' = l := by
  unfold readFin at h
  split at h
  · injection h with h
    injection h with h1 _
    injection h1 with h1 h2
    exact ⟨h1.symm, h2.symm⟩
  · cases h
theorem loadOf_len {bs : List UInt8} {c : List Int × List Int} (h : loadOf bs = some c) : c.1.length ≤ 7 ∧ c.2.length ≤ 7 := by
  unfold loadOf readConf at h
  cases hg : readGrp bs with
  | none => rw [readStage_none (by decide) hg] at h; cases h
  | some p =>
    obtain ⟨v, r⟩ := p
    rw [readStage_zero (l2 := []) hg] at h
    cases hg2 : readGrp r with
    | none => rw [readStage_none (by decide) hg2] at h; cases h
    | some q =>
      obtain ⟨l, r2⟩ := q
      rw [readStage_one hg2] at h
      simp only [readStage] at h
      split at h
      · rename_i c' he
        obtain ⟨v', l'⟩ := c'
        injection h with h
        subst h
        obtain ⟨h1, h2⟩ := readFin_is he
        subst h1 h2
        exact ⟨readGrp_len hg, readGrp_len hg2⟩
      · cases h
theorem conf_small (ix : Int) (cf : List Int × List Int) (es : List En) (i : Int) (n : Nat) (h : cf.1.length ≤ n ∧ cf.2.length ≤ n) (hn : 7 ≤ n) : (confAtOf ix cf es i).1.1.length ≤ n ∧ (confAtOf ix cf es i).1.2.length ≤ n := by
  unfold confAtOf
  split
  · exact h
  · rename_i e _
    cases hl : loadOf e.s.bs with
    | none => simp
    | some c =>
      have := loadOf_len hl
      simp only [Option.getD_some]
      omega
theorem Sound.says {ix tm : Int} {es fs : List En} (h : Sound ix tm es) (hs : fs.map En.says = es.map En.says) : Sound ix tm fs :=
  ⟨h.rx, h.rt, fun k e he => by
    obtain ⟨u, hu, hsay⟩ := says_at hs k e he
    have := h.idx k u hu
    have hx : e.ix = u.ix := congrArg Prod.fst hsay
    omega⟩
theorem AllR.says {es fs : List En} (h : AllR es) (hs : fs.map En.says = es.map En.says) : AllR fs := fun e he => by
  obtain ⟨k, hk⟩ := List.getElem?_of_mem he
  obtain ⟨u, hu, hsay⟩ := says_at hs k e hk
  have := h u (List.mem_of_getElem? hu)
  simp only [En.says, Prod.mk.injEq] at hsay
  rw [hsay.1, hsay.2.1, hsay.2.2.1, hsay.2.2.2]
  exact this
theorem slP_low {w : World} {B : Nat} {s : Sl} {N : Nat} {ix tm : Int} {c : Cf} {es : List En} {ae : Option Addr} {n cap : Nat} {w' : World} (h : Sl.ok w s) (hl : LogAt w' B N ix tm c es ae n cap) (hB : w.heap.size ≤ B) : SlP (Off N ae) s := fun b off e hn => by
  have hb : b < w.heap.size := by
    obtain ⟨b', off', e', hc⟩ := h.1.2 0 hn
    rw [e] at e'
    injection e' with e'
    injection e' with e1 _ _
    subst e1
    exact World.block_lt_of_cell? w _ hc
  exact ⟨by have := hl.lo; omega, fun e => by have := (hl.on (.inr (.inr (.inr (.inl e))))).1; omega⟩

theorem OwnE.cap {w : World} {base : Nat} {ls : List En} {ao : Option Addr} {n cap : Nat} (h : OwnE w base ls ao n cap) : n ≤ maxLen := by
  rcases h.row.2 with ⟨_, h0⟩ | ⟨g, cp, cur, hv, _, hg, h1, h2, _⟩
  · omega
  · exact Nat.le_trans h1 h2
end Go.Proofs.Ytpaommkjafdghaa
