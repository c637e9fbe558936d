/- A region that draws its order, whatever the order: each operation leaves a value that hangs on what came before it alone. -/
import Derived.Test.YtcejamblndilbaaMsg2
import Derived.OrdersHeld
namespace Go.Proofs.Ytcejamblndilbaa
open Go.RowKit

/-- the region's operations write the slots d, d + 1, .. in their order; what they wait for stands before them -/
def shapeOk (ops : Array Oper) (d : Nat) : Bool := (List.range ops.size).all fun k => match ops[k]? with
  | some o => o.dst == some (d + k) && o.after.all (fun e => decide (e.on < k) && Region.binds .any e) && (match o.guard with | none => true | some (j, _) => decide (j < k))
  | none => false
theorem shape_at {ops : Array Oper} {d : Nat} (h : shapeOk ops d = true) {k : Nat} {o : Oper} (ho : ops[k]? = some o) :
    o.dst = some (d + k) ∧ (∀ e ∈ o.after, e.on < k ∧ Region.binds .any e = true) ∧ (∀ j b, o.guard = some (j, b) → j < k) := by
  have hk : k < ops.size := (Array.getElem?_eq_some_iff.1 ho).1
  have h1 := List.all_eq_true.1 h k (List.mem_range.2 hk)
  simp only [ho, Bool.and_eq_true, beq_iff_eq, Array.all_eq_true_iff_forall_mem, decide_eq_true_eq] at h1
  refine ⟨h1.1.1, h1.1.2, fun j b hg => ?_⟩
  have h2 := h1.2
  simp only [hg, decide_eq_true_eq] at h2
  exact h2
/-- the bool in a slot -/
def boolAt (d : Nat) (tmps : Array Value) (j : Nat) : Option Bool := match tmps[d + j]? with
  | some (.bool b) => some b
  | _ => none
theorem wanted_at {ops : Array Oper} {d : Nat} (h : shapeOk ops d = true) {k : Nat} {o : Oper} (ho : ops[k]? = some o) (tmps : Array Value) :
    Region.wanted o (yielded ops tmps) = Region.wanted o (boolAt d tmps) := by
  obtain ⟨_, _, hg⟩ := shape_at h ho
  have hk : k < ops.size := (Array.getElem?_eq_some_iff.1 ho).1
  unfold Region.wanted
  cases hgo : o.guard with
  | none => rfl
  | some g =>
    obtain ⟨j, b⟩ := g
    have hj := hg j b hgo
    obtain ⟨oj, hoj⟩ : ∃ oj, ops[j]? = some oj := ⟨_, Array.getElem?_eq_getElem (by omega)⟩
    have hd := (shape_at h hoj).1
    have : yielded ops tmps j = boolAt d tmps j := by
      unfold yielded boolAt
      rw [hoj]
      simp only [Option.bind_some, hd]
      cases tmps[d + j]? with
      | none => rfl
      | some v => cases v <;> rfl
    simp only [this]

/-- what stands outside the region's slots is as it was -/
def BaseA (d n : Nat) (a0 a : Act) : Prop := a.tmps.size = a0.tmps.size ∧ (∀ s, s < d ∨ d + n ≤ s → a.tmps[s]? = a0.tmps[s]?) ∧ a.defers = a0.defers
/-- one operation's part -/
def StepOk (P : Program) (Q : Exit → Act → World → Prop) (V : Nat → Value → World → Prop) (d n : Nat) (a0 : Act) (W0 : World) (k : Nat) (o : Oper) : Prop :=
  ∀ a w, BaseA d n a0 a → (∀ e ∈ o.after, ∃ v, a.tmps[d + e.on]? = some v ∧ V e.on v w) → Below W0.heap.size W0 w →
    if Region.wanted o (boolAt d a.tmps) = true then o.wp P a w (fun a' w' => ∃ v, a' = a.put o.dst v ∧ V k v w' ∧ Below w.heap.size w w') Q else V k undef w
/-- .. of all -/
def AllOk (F : Nat → Oper → Prop) : Nat → List Oper → Prop
  | _, [] => True
  | k, o :: r => F k o ∧ AllOk F (k + 1) r
theorem AllOk.at {F : Nat → Oper → Prop} : ∀ (l : List Oper) (b : Nat), AllOk F b l → ∀ (k : Nat) (o : Oper), l[k]? = some o → F (b + k) o
  | [], _, _, k, o, h => by simp at h
  | x :: r, b, hl, 0, o, h => by simp at h; subst h; exact hl.1
  | x :: r, b, hl, k + 1, o, h => by
    have := AllOk.at r (b + 1) hl.2 k o (by simpa using h)
    rwa [show b + (k + 1) = b + 1 + k from by omega]

/-- where the walk stands -/
def FillI (V : Nat → Value → World → Prop) (d n : Nat) (a0 : Act) (W0 : World) (listed : Array Bool) (a : Act) (w : World) : Prop :=
  BaseA d n a0 a ∧ Below W0.heap.size W0 w ∧ listed.size = n ∧ ∀ k, k < n → listed[k]? = some true → ∃ v, a.tmps[d + k]? = some v ∧ V k v w
def leftN (n : Nat) (listed : Array Bool) : Nat := ((List.range n).filter fun k => listed[k]? != some true).length
theorem filter_lt {α : Type} {p q : α → Bool} : ∀ (l : List α), (∀ x ∈ l, q x = true → p x = true) → (∃ x ∈ l, p x = true ∧ q x = false) → (l.filter q).length < (l.filter p).length
  | [], _, ⟨x, hx, _⟩ => by cases hx
  | y :: r, h, ⟨x, hx, h1, h2⟩ => by
    have hle : ∀ l : List α, (∀ x ∈ l, q x = true → p x = true) → (l.filter q).length ≤ (l.filter p).length := by
      intro l
      induction l with
      | nil => intro _; simp
      | cons z r ih =>
        intro hz
        have := ih fun x hx => hz x (List.mem_cons_of_mem _ hx)
        have h0 := hz z (List.mem_cons_self ..)
        cases hq : q z <;> cases hp : p z <;> simp [hq, hp] at * <;> omega
    rcases List.mem_cons.1 hx with rfl | hx
    · have := hle r fun x hx => h x (List.mem_cons_of_mem _ hx)
      simp [h1, h2]
      omega
    · have := filter_lt r (fun x hx => h x (List.mem_cons_of_mem _ hx)) ⟨x, hx, h1, h2⟩
      have h0 := h y (List.mem_cons_self ..)
      cases hq : q y <;> cases hp : p y <;> simp [hq, hp] at * <;> omega

theorem wpAny_fill {P : Program} {ops : Array Oper} {Q : Exit → Act → World → Prop} {V : Nat → Value → World → Prop} {d : Nat} {a0 : Act} {W0 : World} (hs : shapeOk ops d = true) (hd : d + ops.size ≤ a0.tmps.size)
    (hst : ∀ k v w w', V k v w → Below w.heap.size w w' → V k v w') (hop : ∀ k o, ops[k]? = some o → StepOk P Q V d ops.size a0 W0 k o)
    (hfin : ∀ a w, BaseA d ops.size a0 a → Below W0.heap.size W0 w → (∀ k, k < ops.size → ∃ v, a.tmps[d + k]? = some v ∧ V k v w) → Q .normal a w) :
    ∀ (fuel : Nat) (listed : Array Bool) (a : Act) (w : World), leftN ops.size listed ≤ fuel → FillI V d ops.size a0 W0 listed a w → wpAny P .any ops Q fuel listed a w := by
  have hunl : ∀ {listed : Array Bool} {i : Nat}, listed.size = ops.size → i ∈ Region.ready .any ops listed → i < ops.size ∧ listed[i]? = some false ∧ ∃ o, ops[i]? = some o ∧ ∀ e ∈ o.after, listed[e.on]? = some true := by
    intro listed i hsz hi
    simp only [Region.ready, List.mem_filter, List.mem_range, Bool.and_eq_true, Bool.not_eq_true'] at hi
    obtain ⟨h1, h2, h3⟩ := hi
    obtain ⟨o, ho⟩ : ∃ o, ops[i]? = some o := ⟨_, Array.getElem?_eq_getElem h1⟩
    refine ⟨h1, ?_, o, ho, fun e he => ?_⟩
    · rw [Array.getElem?_eq_getElem (by omega)]
      rw [Array.getD_eq_getD_getElem?, Array.getElem?_eq_getElem (by omega)] at h2
      simpa using h2
    · rw [ho] at h3
      simp only [Option.map_some, Option.getD_some, Array.all_eq_true_iff_forall_mem, Bool.or_eq_true, Bool.not_eq_true'] at h3
      obtain ⟨h4, h5⟩ := (shape_at hs ho).2.1 e he
      rcases h3 e he with h6 | h6
      · rw [h5] at h6; cases h6
      · rw [Array.getElem?_eq_getElem (by omega)]
        rw [Array.getD_eq_getD_getElem?, Array.getElem?_eq_getElem (by omega)] at h6
        simpa using h6
  have hdone : ∀ {listed : Array Bool}, listed.size = ops.size → Region.ready .any ops listed = [] → ∀ k, k < ops.size → listed[k]? = some true := by
    intro listed hsz hr k
    induction k using Nat.strongRecOn with
    | _ k ih =>
      intro hk
      rw [Array.getElem?_eq_getElem (by omega)]
      cases hb : listed[k]'(by omega) with
      | true => rfl
      | false =>
        exfalso
        have hmem : k ∈ Region.ready .any ops listed := by
          obtain ⟨o, ho⟩ : ∃ o, ops[k]? = some o := ⟨_, Array.getElem?_eq_getElem hk⟩
          simp only [Region.ready, List.mem_filter, List.mem_range, Bool.and_eq_true, Bool.not_eq_true']
          refine ⟨hk, ?_, ?_⟩
          · rw [Array.getD_eq_getD_getElem?, Array.getElem?_eq_getElem (by omega)]
            simpa using hb
          · rw [ho]
            simp only [Option.map_some, Option.getD_some, Array.all_eq_true_iff_forall_mem, Bool.or_eq_true, Bool.not_eq_true']
            intro e he
            obtain ⟨h4, _⟩ := (shape_at hs ho).2.1 e he
            right
            rw [Array.getD_eq_getD_getElem?, ih e.on h4 (by omega)]
            rfl
        rw [hr] at hmem
        cases hmem
  have hend : ∀ {listed : Array Bool} {a : Act} {w : World}, FillI V d ops.size a0 W0 listed a w → Region.ready .any ops listed = [] → Q .normal a w := by
    intro listed a w ⟨h1, h2, h3, h4⟩ hr
    exact hfin a w h1 h2 fun k hk => h4 k hk (hdone h3 hr k hk)
  intro fuel
  induction fuel with
  | zero =>
    intro listed a w hl hI
    have hr : Region.ready .any ops listed = [] := by
      cases hr : Region.ready .any ops listed with
      | nil => rfl
      | cons i r =>
        obtain ⟨h1, h2, _⟩ := hunl (i := i) hI.2.2.1 (by rw [hr]; exact List.mem_cons_self ..)
        have : i ∈ (List.range ops.size).filter fun k => listed[k]? != some true := List.mem_filter.2 ⟨List.mem_range.2 h1, by rw [h2]; rfl⟩
        have := List.length_pos_of_mem this
        unfold leftN at hl
        omega
    exact ⟨hr, hend hI hr⟩
  | succ fuel ih =>
    intro listed a w hl hI
    refine ⟨fun hr => hend hI hr, fun i hi => ?_⟩
    obtain ⟨hb, hbw, hsz, hv⟩ := hI
    obtain ⟨h1, h2, o, ho, haf⟩ := hunl hsz hi
    obtain ⟨hdst, hlt, _⟩ := shape_at hs ho
    have hstep := hop i o ho a w hb (fun e he => hv e.on (by have := (hlt e he).1; omega) (haf e he)) hbw
    have hnext : ∀ v w', V i v w' → Below w.heap.size w w' → wpAny P .any ops Q fuel (listed.setIfInBounds i true) (a.put o.dst v) w' := by
      intro v w' hvi hbw'
      have hput : a.put o.dst v = { a with tmps := a.tmps.setIfInBounds (d + i) v } := by rw [hdst]; rfl
      rw [hput]
      refine ih _ _ _ ?_ ⟨⟨by simp [hb.1], fun s hsd => ?_, hb.2.2⟩, below_then hbw hbw', by simp [hsz], fun k hk hlk => ?_⟩
      · have : leftN ops.size (listed.setIfInBounds i true) < leftN ops.size listed := by
          refine filter_lt _ (fun k _ hk => ?_) ⟨i, List.mem_range.2 h1, by rw [h2]; rfl, ?_⟩
          · rw [Array.getElem?_setIfInBounds] at hk
            split at hk
            · split at hk
              · simp at hk
              · rename_i hh; exact absurd (by omega) hh
            · exact hk
          · rw [Array.getElem?_setIfInBounds_self_of_lt (by omega)]
            simp
        omega
      · rw [Array.getElem?_setIfInBounds_ne (by omega)]
        exact hb.2.1 s hsd
      · by_cases hki : k = i
        · subst hki
          exact ⟨v, Array.getElem?_setIfInBounds_self_of_lt (by rw [hb.1]; omega), hvi⟩
        · rw [Array.getElem?_setIfInBounds_ne (by omega)] at hlk
          obtain ⟨u, hu, hvu⟩ := hv k hk hlk
          exact ⟨u, by rw [Array.getElem?_setIfInBounds_ne (by omega)]; exact hu, hst k u w w' hvu hbw'⟩
    refine wpOp_step ho fun K' hK => ?_
    rw [wanted_at hs ho]
    split
    · rename_i hw
      rw [if_pos hw] at hstep
      refine Oper.wp_mono (fun a' w' h => ?_) hstep
      obtain ⟨v, rfl, hvi, hbw'⟩ := h
      exact hK _ _ (hnext v w' hvi hbw')
    · rename_i hw
      rw [if_neg hw] at hstep
      exact hK _ _ (hnext undef w hstep (Below.refl _ _))

theorem wp_region_fill {P : Program} {id : Nat} {ops : Array Oper} {Q : Exit → Act → World → Prop} (V : Nat → Value → World → Prop) (d : Nat) {a0 : Act} {w : World} (hm : P.follows .mixedOrders = true) (hs : shapeOk ops d = true) (hd : d + ops.size ≤ a0.tmps.size)
    (hst : ∀ k v w w', V k v w → Below w.heap.size w w' → V k v w') (hop : AllOk (StepOk P Q V d ops.size a0 w.drew) 0 ops.toList)
    (hfin : ∀ a w', BaseA d ops.size a0 a → Below w.drew.heap.size w.drew w' → (∀ k, k < ops.size → ∃ v, a.tmps[d + k]? = some v ∧ V k v w') → Q .normal a w') : (Code.region id ops true).wp P Q a0 w := by
  refine wp_region_any hm (wpAny_fill (W0 := w.drew) hs hd hst (fun k o ho => ?_) hfin ops.size (Array.replicate ops.size false) a0 w.drew ?_ ⟨⟨rfl, fun _ _ => rfl, rfl⟩, Below.refl _ _, by simp, fun k hk h => ?_⟩)
  · have := AllOk.at _ 0 hop k o (by rw [Array.getElem?_toList]; exact ho)
    rwa [Nat.zero_add] at this
  · unfold leftN
    exact Nat.le_trans (List.length_filter_le ..) (by simp)
  · rw [Array.getElem?_replicate] at h
    split at h <;> simp at h

theorem stepOk_of {P : Program} {Q : Exit → Act → World → Prop} {V : Nat → Value → World → Prop} {d n : Nat} {a0 : Act} {W0 : World} {k : Nat} {o : Oper}
    (h : ∀ a w, BaseA d n a0 a → (∀ e ∈ o.after, ∃ v, a.tmps[d + e.on]? = some v ∧ V e.on v w) → Below W0.heap.size W0 w → ∀ K : Act → World → Prop, (∀ v w', V k v w' → Below w.heap.size w w' → K (a.put o.dst v) w') →
      if Region.wanted o (boolAt d a.tmps) = true then o.wp P a w K Q else V k undef w) : StepOk P Q V d n a0 W0 k o := by
  intro a w hB hA hW
  exact h a w hB hA hW (fun a' w' => ∃ v, a' = a.put o.dst v ∧ V k v w' ∧ Below w.heap.size w w') fun v w' h1 h2 => ⟨v, rfl, h1, h2⟩
theorem mem_at {α : Type} {l : Array α} (i : Nat) {x : α} (h : l[i]? = some x) : x ∈ l := Array.mem_of_getElem? h
def fillT (d : Nat) (src : Array Value) : Nat → Array Value → Array Value
  | 0, t => t
  | n + 1, t => (fillT d src n t).setIfInBounds (d + n) (src.getD (d + n) undef)
theorem fillT_size (d : Nat) (src : Array Value) : ∀ n t, (fillT d src n t).size = t.size
  | 0, _ => rfl
  | n + 1, t => by rw [fillT, Array.size_setIfInBounds, fillT_size d src n t]
theorem fillT_at (d : Nat) (src : Array Value) (t : Array Value) (hs : src.size = t.size) : ∀ n : Nat, (∀ s : Nat, s < d ∨ d + n ≤ s → src[s]? = t[s]?) → ∀ i : Nat, (fillT d src n t)[i]? = src[i]? := by
  intro n h i
  have key : ∀ m, (fillT d src m t)[i]? = if d ≤ i ∧ i < d + m ∧ i < t.size then src[i]? else t[i]? := by
    intro m
    induction m with
    | zero => rw [fillT, if_neg (by omega)]
    | succ m ih =>
      rw [fillT, Array.getElem?_setIfInBounds, fillT_size]
      by_cases h1 : d + m = i
      · rw [if_pos h1]
        by_cases h2 : i < t.size
        · rw [if_pos (by omega), if_pos (by omega), Array.getD_eq_getD_getElem?, h1, Array.getElem?_eq_getElem (by omega)]; rfl
        · rw [if_neg (by omega), if_neg (by omega), Array.getElem?_eq_none (by omega)]
      · rw [if_neg h1, ih]
        by_cases h2 : d ≤ i ∧ i < d + m ∧ i < t.size
        · rw [if_pos h2, if_pos (by omega)]
        · rw [if_neg h2, if_neg (by omega)]
  rw [key n]
  split
  · rfl
  · rename_i hn
    by_cases h2 : i < t.size
    · exact (h i (by omega)).symm
    · rw [Array.getElem?_eq_none (by omega), Array.getElem?_eq_none (by omega)]
theorem act_eq {d n : Nat} {a0 a : Act} (h : BaseA d n a0 a) : a = ⟨fillT d a.tmps n a0.tmps, a0.defers⟩ := by
  obtain ⟨h1, h2, h3⟩ := h
  cases a
  simp only at h1 h2 h3
  subst h3
  congr 1
  apply Array.ext_getElem?
  intro i
  rw [fillT_at d _ _ h1 n h2 i]
end Go.Proofs.Ytcejamblndilbaa
