/- serial's sort: its memory. -/
import Derived.Test.YtpknmfmpiachkaaGreatSer5
import Derived.Test.YtpknmfmpiachkaaGreatCert7
namespace Go.Proofs.YtpknmfmpiachkaaGreat
open Go.RowKit
structure RowV where
 a : Option Addr
 n : Nat
 c : Nat
def RowV.val (r : RowV) : Value := .slice r.a r.n r.c
def upd {α : Type} (f : Nat → α) (t : Nat) (v : α) : Nat → α := fun i => if i = t then v else f i
theorem upd_same {α : Type} (f : Nat → α) (t : Nat) (v : α) : upd f t v t = v := if_pos rfl
theorem upd_other {α : Type} (f : Nat → α) (t : Nat) (v : α) {i : Nat} (h : i ≠ t) : upd f t v i = f i := if_neg h
theorem range_set {α β : Type} (g : α → β) (f : Nat → α) (N t : Nat) (v : α) : ((List.range N).map fun i => g (f i)).set t (g v) = (List.range N).map fun i => g (upd f t v i) := by
 apply List.ext_getElem
 · simp
 · intro i h1 h2
   rw [List.getElem_set]
   simp only [List.getElem_map, List.getElem_range]
   by_cases h : t = i
   · subst h; rw [if_pos rfl, upd_same]
   · rw [if_neg h, upd_other _ _ _ (fun e => h e.symm)]
structure SortS (w : World) (V AB BB N : Nat) (κ : Nat → Nat) (wx : World) (rs : Nat → RowV) (f : Nat → Int) (b : Nat → List Int) : Prop where
 below : Below w.heap.size w wx
 old : ∀ g, g < w.heap.size → κ g = 0
 var : wx.heap[V]? = some (.cells #[.slice (some ⟨AB, 0, none⟩) N N] 48 (0, 0))
 ahead : wx.heap[AB]? = some (.cells ((List.range N).map fun i => Value.int .i64 (f i)).toArray 3 (0, 0))
 rows : wx.heap[BB]? = some (.cells ((List.range N).map fun i => (rs i).val).toArray 41 (0, 0))
 own : ∀ i, i < N → (b i).length = (rs i).n ∧ wx.ownsRow w.heap.size 2 1 (rs i).val (rs i).n (cellsI (b i)) ∧ ∀ g, (rs i).val.ownBlock = some g → κ g = 10 + i
 colV : κ V = 1
 colA : κ AB = 2
 colB : κ BB = 3
variable {w : World} {V AB BB N : Nat} {κ κ' : Nat → Nat} {wx w1 : World} {rs : Nat → RowV} {f : Nat → Int} {b : Nat → List Int}
theorem Chg.below {J : Nat → Prop} {κ κ' : Nat → Nat} {w a c : World} (h : Below w.heap.size w a) (hc : Chg J κ κ' a c) (ho : ∀ g, g < w.heap.size → ¬ J (κ g)) : Below w.heap.size w c :=
 ⟨hc.os.trans h.os, hc.tape.trans h.tape, hc.output.trans h.output, Nat.le_trans h.size hc.size, fun g hg => (hc.block g (Nat.lt_of_lt_of_le hg h.size) (ho g hg)).trans (h.block g hg)⟩
theorem SortS.chg (h : SortS w V AB BB N κ wx rs f b) {J : Nat → Prop} (hc : Chg J κ κ' wx w1) (hj : ∀ i, J i → 4 ≤ i ∧ i ≤ 9) : SortS w V AB BB N κ' w1 rs f b := by
 have hn : ∀ i, (i < 4 ∨ 9 < i) → ¬ J i := fun i hi hJ => by have := hj i hJ; omega
 refine ⟨hc.below h.below fun g hg => by rw [h.old g hg]; exact hn 0 (by omega), fun g hg => (hc.paint g (Nat.lt_of_lt_of_le hg h.below.size)).trans (h.old g hg), ?_, ?_, ?_, fun i hi => ?_, (hc.paint V (lt_of_block h.var)).trans h.colV, (hc.paint AB (lt_of_block h.ahead)).trans h.colA, (hc.paint BB (lt_of_block h.rows)).trans h.colB⟩
 · exact (hc.block V (lt_of_block h.var) (by rw [h.colV]; exact hn 1 (by omega))).trans h.var
 · exact (hc.block AB (lt_of_block h.ahead) (by rw [h.colA]; exact hn 2 (by omega))).trans h.ahead
 · exact (hc.block BB (lt_of_block h.rows) (by rw [h.colB]; exact hn 3 (by omega))).trans h.rows
 · obtain ⟨h1, h2, h3⟩ := h.own i hi
   exact ⟨h1, own_keep h2 fun g hg hl => hc.block g hl (by rw [h3 g hg]; exact hn _ (by omega)), fun g hg => (hc.paint g (h2.lt g hg).2).trans (h3 g hg)⟩
theorem SortS.sub (h : SortS w V AB BB N κ wx rs f b) (hb : Below wx.heap.size wx w1) : SortS w V AB BB N κ w1 rs f b := h.chg (Chg.of_below (J := fun _ => False) hb) fun _ h => h.elim
theorem SortS.cellV (h : SortS w V AB BB N κ wx rs f b) : wx.cell? ⟨V, 0, none⟩ = some (.slice (some ⟨AB, 0, none⟩) N N) := by simp [World.cell?, h.var]
theorem SortS.cellA (h : SortS w V AB BB N κ wx rs f b) {t : Nat} (ht : t < N) : wx.cell? ⟨AB, t, none⟩ = some (.int .i64 (f t)) ∧ wx.frozen? ⟨AB, t, none⟩ = false := by
 constructor
 · simp only [World.cell?, h.ahead]
   simp [ht]
 · simp [World.frozen?, h.ahead]
theorem SortS.cellB (h : SortS w V AB BB N κ wx rs f b) {t : Nat} (ht : t < N) : wx.cell? ⟨BB, t, none⟩ = some (rs t).val ∧ wx.frozen? ⟨BB, t, none⟩ = false := by
 constructor
 · simp only [World.cell?, h.rows]
   simp [ht]
 · simp [World.frozen?, h.rows]
theorem SortS.setA (h : SortS w V AB BB N κ wx rs f b) (t : Nat) (v : Int) : SortS w V AB BB N κ (wx.setCell ⟨AB, t, none⟩ (.int .i64 v)) rs (upd f t v) b ∧ Chg (· = 2) κ κ wx (wx.setCell ⟨AB, t, none⟩ (.int .i64 v)) := by
 have hc : Chg (· = 2) κ κ wx (wx.setCell ⟨AB, t, none⟩ (.int .i64 v)) := Chg.of_grown (grown_set wx AB t _) h.colA
 refine ⟨⟨hc.below h.below fun g hg => by rw [h.old g hg]; omega, h.old, ?_, ?_, ?_, fun i hi => ?_, h.colV, h.colA, h.colB⟩, hc⟩
 · exact (hc.block V (lt_of_block h.var) (by rw [h.colV]; omega)).trans h.var
 · have := set_block (i := t) h.ahead (.int .i64 v)
   rw [List.setIfInBounds_toArray, range_set (Value.int .i64)] at this
   exact this
 · exact (hc.block BB (lt_of_block h.rows) (by rw [h.colB]; omega)).trans h.rows
 · obtain ⟨h1, h2, h3⟩ := h.own i hi
   exact ⟨h1, own_keep h2 fun g hg hl => hc.block g hl (by rw [h3 g hg]; omega), h3⟩
theorem SortS.setB (h : SortS w V AB BB N κ wx rs f b) {t : Nat} (ht : t < N) {r : RowV} {x : Int} {Y : World} (hbY : Below wx.heap.size wx Y) (hr : r.n = (rs t).n + 1) (ho : w1.ownsRow w.heap.size 2 1 r.val r.n (cellsI (b t) ++ cellsI [x])) (hg : Y.grownBy w1 (rs t).val.ownBlock)
 (ha : r.val.ownBlock = (rs t).val.ownBlock ∨ r.val.ownBlock = some Y.heap.size) :
 ∃ κ', Chg (fun i => i = 3 ∨ 10 ≤ i) κ κ' wx (w1.setCell ⟨BB, t, none⟩ r.val) ∧ SortS w V AB BB N κ' (w1.setCell ⟨BB, t, none⟩ r.val) (upd rs t r) f (upd b t (b t ++ [x])) := by
 have hY := h.sub hbY
 obtain ⟨o1, o2, o3⟩ := hY.own t ht
 have hgs := grown_set w1 BB t r.val
 have hold : ∀ g, (rs t).val.ownBlock = some g → g < Y.heap.size := fun g h => (o2.lt g h).2
 have hne : ∀ g, r.val.ownBlock = some g → g ≠ BB := fun g hg' e => by
  rcases ha with h' | h'
  · rw [h'] at hg'; have := o3 g hg'; rw [e, h.colB] at this; omega
  · rw [h'] at hg'; have h1 := Option.some.inj hg'; have h2 := lt_of_block hY.rows; omega
 obtain ⟨κ', hκ'⟩ : ∃ κ', κ' = tint Y κ (10 + t) := ⟨_, rfl⟩
 have hp : ∀ g, g < Y.heap.size → κ' g = κ g := fun g hg => by rw [hκ']; exact tint_old hg
 have hblk : ∀ g, g < Y.heap.size → g ≠ BB → (rs t).val.ownBlock ≠ some g → (w1.setCell ⟨BB, t, none⟩ r.val).heap[g]? = Y.heap[g]? := fun g h1 h2 h3 =>
  (hgs.block g (Nat.lt_of_lt_of_le h1 hg.size) (fun e => h2 (Option.some.inj e))).trans (hg.block g h1 fun e => h3 e.symm)
 have hcY : Chg (fun i => i = 3 ∨ i = 10 + t) κ κ' Y (w1.setCell ⟨BB, t, none⟩ r.val) :=
  ⟨hg.os, hg.tape, hg.output, Nat.le_trans hg.size hgs.size, hp, fun g hgl hn => hblk g hgl (fun e => hn (.inl (by rw [e]; exact h.colB))) fun e => hn (.inr (o3 g e))⟩
 have hc : Chg (fun i => i = 3 ∨ i = 10 + t) κ κ' wx (w1.setCell ⟨BB, t, none⟩ r.val) := (Chg.of_below hbY).trans hcY
 refine ⟨κ', hc.mono fun i hi => by omega, ⟨hc.below h.below fun g hg => by rw [h.old g hg]; omega, fun g hg => (hc.paint g (Nat.lt_of_lt_of_le hg h.below.size)).trans (h.old g hg), ?_, ?_, ?_, fun i hi => ?_, (hc.paint V (lt_of_block h.var)).trans h.colV, (hc.paint AB (lt_of_block h.ahead)).trans h.colA, (hc.paint BB (lt_of_block h.rows)).trans h.colB⟩⟩
 · exact (hc.block V (lt_of_block h.var) (by rw [h.colV]; omega)).trans h.var
 · exact (hc.block AB (lt_of_block h.ahead) (by rw [h.colA]; omega)).trans h.ahead
 · have hB1 : w1.heap[BB]? = some (.cells ((List.range N).map fun i => (rs i).val).toArray 41 (0, 0)) := (hg.block BB (lt_of_block hY.rows) fun e => by have := o3 BB e.symm; rw [h.colB] at this; omega).trans hY.rows
   have := set_block (i := t) hB1 r.val
   rw [List.setIfInBounds_toArray, range_set RowV.val] at this
   exact this
 · by_cases hit : i = t
   · subst hit
     rw [upd_same, upd_same]
     refine ⟨by rw [List.length_append, o1, hr]; rfl, ?_, fun g hgo => ?_⟩
     · rw [cellsI_app]
       exact own_keep ho fun g hgo _ => set_far rfl (hne g hgo)
     · rcases ha with h' | h'
       · rw [h'] at hgo
         rw [hp g (hold g hgo)]
         exact o3 g hgo
       · rw [h'] at hgo
         have := Option.some.inj hgo
         rw [hκ']
         exact tint_new (by omega)
   · rw [upd_other _ _ _ hit, upd_other _ _ _ hit]
     obtain ⟨h1, h2, h3⟩ := h.own i hi
     exact ⟨h1, own_keep h2 fun g hg hl => hc.block g hl (by rw [h3 g hg]; omega), fun g hg => (hc.paint g (h2.lt g hg).2).trans (h3 g hg)⟩
def RowAt (w : World) (κ : Nat → Nat) (wx : World) (i : Nat) (r : RowV) (L : List Int) : Prop :=
 L.length = r.n ∧ wx.ownsRow w.heap.size 2 1 r.val r.n (cellsI L) ∧ ∀ g, r.val.ownBlock = some g → κ g = i
theorem RowAt.chg {i : Nat} {r : RowV} {L : List Int} (h : RowAt w κ wx i r L) {J : Nat → Prop} (hc : Chg J κ κ' wx w1) (hj : ¬ J i) : RowAt w κ' w1 i r L := by
 obtain ⟨h1, h2, h3⟩ := h
 exact ⟨h1, own_keep h2 fun g hg hl => hc.block g hl (by rw [h3 g hg]; exact hj), fun g hg => (hc.paint g (h2.lt g hg).2).trans (h3 g hg)⟩
theorem RowAt.sub {i : Nat} {r : RowV} {L : List Int} (h : RowAt w κ wx i r L) (hb : Below wx.heap.size wx w1) : RowAt w κ w1 i r L := h.chg (Chg.of_below (J := fun _ => False) hb) id
theorem RowAt.push {i : Nat} {r r' : RowV} {L : List Int} {x : Int} (h : RowAt w κ wx i r L) (hr : r'.n = r.n + 1) (ho : w1.ownsRow w.heap.size 2 1 r'.val r'.n (cellsI L ++ cellsI [x])) (hg : wx.grownBy w1 r.val.ownBlock) (ha : r'.val.ownBlock = r.val.ownBlock ∨ r'.val.ownBlock = some wx.heap.size) :
 Chg (· = i) κ (tint wx κ i) wx w1 ∧ RowAt w (tint wx κ i) w1 i r' (L ++ [x]) := by
 obtain ⟨h1, h2, h3⟩ := h
 refine ⟨⟨hg.os, hg.tape, hg.output, hg.size, fun g hgl => tint_old hgl, fun g hgl hn => hg.block g hgl fun e => hn (h3 g e.symm)⟩, by rw [List.length_append, h1, hr]; rfl, by rw [cellsI_app]; exact ho, fun g hgo => ?_⟩
 rcases ha with h' | h'
 · rw [h'] at hgo
   rw [tint_old (h2.lt g hgo).2]
   exact h3 g hgo
 · rw [h'] at hgo
   have := Option.some.inj hgo
   exact tint_new (by omega)
set_option maxRecDepth 100000 in
set_option maxHeartbeats 1600000 in
theorem topoFn_any (h : SortS w V AB BB N κ wx rs f b) (t : Nat) (ht : t < N) : Calls Tryz.prog 65 #[.int .i64 (t : Nat), .pointer (some ⟨V, 0, none⟩)] wx (RetBox wx (.bool (decide (f t = 0)))) := by
 have hv := h.cellV
 have ha := (h.cellA ht).1
 obtain ⟨R, hR⟩ : ∃ R, R = decide (f t = 0) := ⟨_, rfl⟩
 rw [← hR]
 obtain ⟨F, hF⟩ : ∃ F, F = f t := ⟨_, rfl⟩
 rw [← hF] at ha hR
 have htI : (t : Int) < (N : Int) := by omega
 have ht0 : (0 : Int) ≤ (t : Int) := by omega
 have hnat : ((t : Int)).toNat = t := by omega
 by_cases h0 : F = 0
 · have HR : Hid (R = true) := by show _ = _; rw [hR, decide_eq_true h0]
   have hb0 : (F == 0) = true := by simpa using h0
   clear hR hF h
   go_enter Tryz.func65, Tryz.ntmps65
   go_wp2_with fail
   go_ret
   exact ⟨by rw [HR.out]; rfl, Below.refl _ _⟩
 · have HR : Hid (R = false) := by show _ = _; rw [hR, decide_eq_false h0]
   have hb0 : (F == 0) = false := by simpa using h0
   clear hR hF h
   go_enter Tryz.func65, Tryz.ntmps65
   go_wp2_with fail
   go_ret
   exact ⟨by rw [HR.out]; rfl, Below.refl _ _⟩
end Go.Proofs.YtpknmfmpiachkaaGreat
namespace Go.Proofs.YtpknmfmpiachkaaGreat
open Go.RowKit
def cntE (E : List (Int × Int)) (order : List Int) (x : Int) : Int := ((E.filter fun e => decide (e.2 = x) && !order.contains e.1).length : Nat)
def behE (E : List (Int × Int)) (y : Int) : List Int := (E.filter fun e => decide (e.1 = y)).map (·.2)
theorem cntE_snoc (l : List (Int × Int)) (e : Int × Int) (x : Int) : cntE (l ++ [e]) [] x = cntE l [] x + (if e.2 = x then 1 else 0) := by
 unfold cntE
 rw [List.filter_append, List.length_append]
 by_cases h : e.2 = x
 · simp [h]
 · simp [h]
theorem behE_snoc (l : List (Int × Int)) (e : Int × Int) (y : Int) : behE (l ++ [e]) y = behE l y ++ (if e.1 = y then [e.2] else []) := by
 unfold behE
 rw [List.filter_append, List.map_append]
 by_cases h : e.1 = y <;> simp [h]
theorem cntE_nonneg (E : List (Int × Int)) (order : List Int) (x : Int) : 0 ≤ cntE E order x := by unfold cntE; omega
theorem cntE_le (E : List (Int × Int)) (order : List Int) (x : Int) : cntE E order x ≤ E.length := by
 unfold cntE
 have := List.length_filter_le (fun e => decide (e.2 = x) && !order.contains e.1) E
 omega
theorem behE_len (E : List (Int × Int)) (y : Int) : (behE E y).length ≤ E.length := by
 unfold behE
 rw [List.length_map]
 exact List.length_filter_le _ _
theorem cntE_next (E : List (Int × Int)) (order : List Int) (n x : Int) (hn : n ∉ order) : cntE E (order ++ [n]) x = cntE E order x - ((behE E n).count x : Nat) := by
 induction E with
 | nil => rfl
 | cons e r ih =>
   unfold cntE behE at ih ⊢
   rw [List.filter_cons, List.filter_cons, List.filter_cons]
   by_cases h1 : e.2 = x
   · by_cases h2 : e.1 = n
     · have h3 : order.contains n = false := by simpa using hn
       have h4 : (order ++ [n]).contains n = true := by simp
       simp only [h1, h2, h3, h4, decide_true, Bool.true_and, Bool.not_false, Bool.not_true, if_true, Bool.false_eq_true, if_false, List.map_cons, List.length_cons]
       rw [List.count_cons_self]
       omega
     · have h4 : (order ++ [n]).contains e.1 = order.contains e.1 := by
        rw [List.contains_append]
        have : [n].contains e.1 = false := by simpa using fun h => h2 h
        rw [this, Bool.or_false]
       rw [h4]
       simp only [h1, h2, decide_true, decide_false, Bool.true_and, Bool.false_eq_true, if_false]
       split
       · simp only [List.length_cons]; omega
       · exact ih
   · by_cases h2 : e.1 = n
     · simp only [h1, h2, decide_true, decide_false, Bool.false_and, Bool.false_eq_true, if_false, if_true, List.map_cons]
       rw [List.count_cons_of_ne (fun h => h1 h)]
       exact ih
     · simp only [h1, h2, decide_false, Bool.false_and, Bool.false_eq_true, if_false]
       exact ih
def Ordered (E : List (Int × Int)) (order : List Int) : Prop := ∀ (pre : List Int) t post, order = pre ++ t :: post → ∀ e ∈ E, e.2 = t → e.1 ∈ pre
structure TopoOut (E : List (Int × Int)) (nums order left : List Int) : Prop where
 perm : (order ++ left).Perm nums
 ordered : Ordered E order
 stuck : ∀ x ∈ left, ∃ e ∈ E, e.2 = x ∧ e.1 ∉ order
theorem cntE_zero {E : List (Int × Int)} {order : List Int} {x : Int} (h : cntE E order x = 0) : ∀ e ∈ E, e.2 = x → e.1 ∈ order := by
 intro e he hx
 unfold cntE at h
 have h0 : (E.filter fun e => decide (e.2 = x) && !order.contains e.1) = [] := List.eq_nil_of_length_eq_zero (by omega)
 rw [List.filter_eq_nil_iff] at h0
 have := h0 e he
 simpa [hx] using this
theorem cntE_some {E : List (Int × Int)} {order : List Int} {x : Int} (h : cntE E order x ≠ 0) : ∃ e ∈ E, e.2 = x ∧ e.1 ∉ order := by
 unfold cntE at h
 cases hf : (E.filter fun e => decide (e.2 = x) && !order.contains e.1) with
 | nil => rw [hf] at h; exact absurd rfl h
 | cons e r =>
   have he : e ∈ E.filter fun e => decide (e.2 = x) && !order.contains e.1 := by rw [hf]; exact List.mem_cons_self ..
   rw [List.mem_filter] at he
   simp only [Bool.and_eq_true, decide_eq_true_eq, Bool.not_eq_true', List.contains_eq_mem, decide_eq_false_iff_not] at he
   exact ⟨e, he.1, he.2.1, he.2.2⟩
theorem ordered_snoc {E : List (Int × Int)} {order : List Int} {n : Int} (h : Ordered E order) (hz : cntE E order n = 0) : Ordered E (order ++ [n]) := by
 intro pre t post he e hE ht
 rcases List.eq_nil_or_concat post with rfl | ⟨p', x, rfl⟩
 · have h1 : order = pre ∧ n = t := by
    have := List.append_inj' he rfl
    exact ⟨this.1, by simpa using this.2⟩
   rw [← h1.1]
   exact cntE_zero hz e hE (by rw [h1.2]; exact ht)
 · rw [List.concat_eq_append, ← List.cons_append, ← List.append_assoc] at he
   have := (List.append_inj' he rfl).1
   exact h pre t p' this e hE ht
theorem rightL_num {h : List DoneV} : ∀ (l : List DoneV) (i : Nat), rightL h i l = true → ∀ (k : Nat) d, l[k]? = some d → d.num = (i + k : Nat) + 1
 | [], _, _, _, _, hk => by simp at hk
 | x :: r, i, hr, k, d, hk => by
   unfold rightL at hr
   rw [Bool.and_eq_true] at hr
   cases k with
   | zero =>
     simp only [List.getElem?_cons_zero, Option.some.injEq] at hk
     subst hk
     have h1 := hr.1
     unfold badAt at h1
     simp only [Bool.not_eq_true', Bool.or_eq_false_iff, decide_eq_false_iff_not, Decidable.not_not] at h1
     have := h1.1.1.1
     rw [this]; simp
   | succ k =>
     rw [List.getElem?_cons_succ] at hk
     have := rightL_num r (i + 1) hr.2 k d hk
     rw [this]; omega
theorem rightP_num {h : List DoneV} (hr : rightP h = true) (k : Nat) (d : DoneV) (hk : h[k]? = some d) : d.num = (k : Int) + 1 := by
 unfold rightP at hr
 rw [Bool.and_eq_true] at hr
 have := rightL_num h 0 hr.2 k d hk
 rw [this]; omega
theorem num_bounds {h : List DoneV} (hr : rightP h = true) (d : DoneV) (hd : d ∈ h) : 1 ≤ d.num ∧ d.num ≤ h.length := by
 obtain ⟨k, hk⟩ := List.mem_iff_getElem?.1 hd
 have h1 := rightP_num hr k d hk
 have h2 := (List.getElem?_eq_some_iff.1 hk).1
 omega
theorem edge_bounds {h : List DoneV} (e : Int × Int) (he : e ∈ edgesP h) : rightP h = true ∧ ∃ a ∈ h, ∃ b ∈ h, e = (a.num, b.num) ∧ leadsP a b = true := by
 unfold edgesP at he
 split at he
 · rename_i hr
   obtain ⟨a, ha, hb⟩ := List.mem_flatMap.1 he
   unfold edgesFrom at hb
   obtain ⟨b, hb1, rfl⟩ := List.mem_map.1 hb
   rw [List.mem_filter] at hb1
   exact ⟨hr, a, ha, b, hb1.1, rfl, hb1.2⟩
 · cases he
theorem edge_in {h : List DoneV} (e : Int × Int) (he : e ∈ edgesP h) : 1 ≤ e.1 ∧ e.1 ≤ h.length ∧ 1 ≤ e.2 ∧ e.2 ≤ h.length := by
 obtain ⟨hr, a, ha, b, hb, rfl, _⟩ := edge_bounds e he
 have h1 := num_bounds hr a ha
 have h2 := num_bounds hr b hb
 exact ⟨h1.1, h1.2, h2.1, h2.2⟩
theorem upd_cnt {l : List (Int × Int)} {e : Int × Int} {t : Nat} (ht : e.2 = (t : Int)) : (upd (fun i : Nat => cntE l [] (i : Int)) t (cntE l [] (t : Int) + 1)) = fun i : Nat => cntE (l ++ [e]) [] (i : Int) := by
 funext i
 rw [cntE_snoc]
 by_cases h : i = t
 · subst h; rw [upd_same, if_pos ht]
 · rw [upd_other _ _ _ h, if_neg (by omega)]; omega
theorem upd_beh {l : List (Int × Int)} {e : Int × Int} {t : Nat} (ht : e.1 = (t : Int)) : (upd (fun i : Nat => behE l (i : Int)) t (behE l (t : Int) ++ [e.2])) = fun i : Nat => behE (l ++ [e]) (i : Int) := by
 funext i
 rw [behE_snoc]
 by_cases h : i = t
 · subst h; rw [upd_same, if_pos ht]
 · rw [upd_other _ _ _ h, if_neg (by omega), List.append_nil]
theorem upd_dec {g : Nat → Int} {l : List Int} {x : Int} {t : Nat} (ht : x = (t : Int)) : (upd (fun i : Nat => g i - ((l.count (i : Int) : Nat) : Int)) t (g t - ((l.count (t : Int) : Nat) : Int) - 1)) = fun i : Nat => g i - (((l ++ [x]).count (i : Int) : Nat) : Int) := by
 funext i
 rw [List.count_append]
 by_cases h : i = t
 · subst h
   rw [upd_same, ht, List.count_cons_self, List.count_nil]
   omega
 · rw [upd_other _ _ _ h, List.count_cons_of_ne (by omega), List.count_nil]
   omega
theorem nums_nodup {h : List DoneV} (hr : rightP h = true) : (h.map DoneV.num).Nodup := by
 rw [List.nodup_iff_pairwise_ne, List.pairwise_iff_getElem]
 intro i j hi hj hij
 rw [List.length_map] at hi hj
 simp only [List.getElem_map]
 have h1 := rightP_num hr i h[i] (List.getElem?_eq_getElem hi)
 have h2 := rightP_num hr j h[j] (List.getElem?_eq_getElem hj)
 omega
theorem idxOf_cases {α : Type} (p : α → Bool) (l : List α) : (idxOf p l = -1 ∧ ∀ x ∈ l, p x = false) ∨ ∃ (i : Nat) (x : α), idxOf p l = (i : Nat) ∧ l[i]? = some x ∧ p x = true := by
 unfold idxOf
 cases h : l.findIdx? p with
 | none => rw [List.findIdx?_eq_none_iff] at h; exact .inl ⟨rfl, h⟩
 | some i =>
   obtain ⟨hi, hp, _⟩ := List.findIdx?_eq_some_iff_getElem.1 h
   exact .inr ⟨i, l[i], rfl, List.getElem?_eq_getElem hi, hp⟩
theorem topo_next {nums order left : List Int} {i : Nat} {x : Int} (hp : (order ++ left).Perm nums) (hx : left[i]? = some x) : (order ++ [x] ++ left.eraseIdx i).Perm nums := by
 refine List.Perm.trans ?_ hp
 rw [List.append_assoc]
 refine List.Perm.append_left _ ?_
 rw [List.eraseIdx_eq_take_drop_succ]
 have h1 : left = left.take i ++ x :: left.drop (i + 1) := by rw [← drop_at hx, List.take_append_drop]
 have h2 : (left.take i ++ x :: left.drop (i + 1)).Perm ([x] ++ (left.take i ++ left.drop (i + 1))) := List.perm_middle
 exact h2.symm.trans (by rw [← h1])
theorem topo_fresh {nums order left : List Int} {i : Nat} {x : Int} (hp : (order ++ left).Perm nums) (hn : nums.Nodup) (hx : left[i]? = some x) : x ∉ order := by
 have h1 : (order ++ left).Nodup := hp.nodup_iff.2 hn
 intro ho
 exact (List.nodup_append.1 h1).2.2 x ho x (List.mem_of_getElem? hx) rfl
theorem beh_edge {E : List (Int × Int)} {y x : Int} (h : x ∈ behE E y) : (y, x) ∈ E := by
 unfold behE at h
 obtain ⟨e, he, rfl⟩ := List.mem_map.1 h
 rw [List.mem_filter] at he
 have := of_decide_eq_true he.2
 rw [← this]
 exact he.1
end Go.Proofs.YtpknmfmpiachkaaGreat
