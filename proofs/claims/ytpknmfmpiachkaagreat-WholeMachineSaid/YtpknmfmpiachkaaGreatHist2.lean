/- That what was read is what an order gives: in plain words. -/
import Derived.Test.YtpknmfmpiachkaaGreatHist1
namespace Go.Proofs.YtpknmfmpiachkaaGreat
open Go.RowKit
theorem foldLast {α : Type} (p : α → Prop) [DecidablePred p] (f : α → Int) (l : List α) :
 (l.foldl (fun n x => if p x then f x else n) 0 = 0 ∧ ∀ x ∈ l, ¬ p x) ∨ ∃ pre x post, l = pre ++ x :: post ∧ p x ∧ (∀ y ∈ post, ¬ p y) ∧ l.foldl (fun n x => if p x then f x else n) 0 = f x := by
 refine snoc_ind (P := fun l : List α => (l.foldl (fun n x => if p x then f x else n) 0 = 0 ∧ ∀ x ∈ l, ¬ p x) ∨ ∃ pre x post, l = pre ++ x :: post ∧ p x ∧ (∀ y ∈ post, ¬ p y) ∧ l.foldl (fun n x => if p x then f x else n) 0 = f x) ?_ ?_ l
 · exact .inl ⟨rfl, fun _ h => absurd h List.not_mem_nil⟩
 · intro l a ih
   rw [List.foldl_append]
   simp only [List.foldl_cons, List.foldl_nil]
   by_cases hp : p a
   · exact .inr ⟨l, a, [], rfl, hp, fun _ h => absurd h List.not_mem_nil, by rw [if_pos hp]⟩
   · rw [if_neg hp]
     rcases ih with ⟨h1, h2⟩ | ⟨pre, x, post, h1, h2, h3, h4⟩
     · refine .inl ⟨h1, fun x hx => ?_⟩
       rcases List.mem_append.1 hx with hx | hx
       · exact h2 x hx
       · rw [List.mem_singleton.1 hx]; exact hp
     · refine .inr ⟨pre, x, post ++ [a], by rw [h1, List.append_assoc]; rfl, h2, fun y hy => ?_, h4⟩
       rcases List.mem_append.1 hy with hy | hy
       · exact h3 y hy
       · rw [List.mem_singleton.1 hy]; exact hp
def verP (h : List DoneV) (key : Nat) (snap : Int) : Int := h.foldl (fun n d => if d.num ≤ snap ∧ writesP d.m.s key = true then d.num else n) 0
def wrAt (h : List DoneV) (key : Nat) (x : Int) : Bool := match h[(x - 1).toNat]? with
 | some d => writesP d.m.s key
 | none => false
def lastP (h : List DoneV) (key : Nat) (l : List Int) : Int := l.foldl (fun n x => if wrAt h key x = true then x else n) 0
theorem edges_of {h : List DoneV} (hr : rightP h = true) {a b : DoneV} (ha : a ∈ h) (hb : b ∈ h) (hl : leadsP a b = true) : (a.num, b.num) ∈ edgesP h := by
 unfold edgesP
 rw [if_pos hr]
 refine List.mem_flatMap.2 ⟨a, ha, ?_⟩
 unfold edgesFrom
 exact List.mem_map.2 ⟨b, List.mem_filter.2 ⟨hb, hl⟩, rfl⟩
theorem rightL_snap : ∀ {h : List DoneV} {l : List DoneV} {i : Nat}, rightL h i l = true → ∀ d ∈ l, d.m.s.snap < d.num
 | _, [], _, _, d, hd => absurd hd List.not_mem_nil
 | h, x :: r, i, hl, d, hd => by
   unfold rightL at hl
   rw [Bool.and_eq_true] at hl
   rcases List.mem_cons.1 hd with rfl | hd
   · have hb := hl.1
     unfold badAt at hb
     simp only [Bool.not_eq_true', Bool.or_eq_false_iff, decide_eq_false_iff_not] at hb
     have := hb.1.2
     omega
   · exact rightL_snap hl.2 d hd
theorem rightP_snap {h : List DoneV} (hr : rightP h = true) : ∀ d ∈ h, d.m.s.snap < d.num := by
 unfold rightP at hr
 rw [Bool.and_eq_true] at hr
 exact rightL_snap hr.2
theorem reads_law {h : List DoneV} (hr : rightP h = true) (hR : ∀ d ∈ h, d.m.s.Right) {o : List Int} (hp : o.Perm (h.map DoneV.num)) (ho : Ordered (edgesP h) o) (key : Nat) (hkey : KeyOk key) (k : Nat) (n : Int) (d : DoneV) (hk : o[k]? = some n) (hd : h[(n - 1).toNat]? = some d) (hrd : readsP d.m.s key = true) :
 lastP h key (o.take k) = verP h key d.m.s.snap := by
 have hnum := rightP_num hr
 have hdm : d ∈ h := List.mem_of_getElem? hd
 have hin : ∀ x ∈ o, ∃ a ∈ h, x = a.num ∧ wrAt h key x = writesP a.m.s key := fun x hx => by
  obtain ⟨a, ha, rfl⟩ := List.mem_map.1 (hp.mem_iff.1 hx)
  refine ⟨a, ha, rfl, ?_⟩
  obtain ⟨i, hi⟩ := List.mem_iff_getElem?.1 ha
  have := hnum i a hi
  unfold wrAt
  rw [show (a.num - 1).toNat = i by omega, hi]
 have hwr : ∀ a ∈ h, wrAt h key a.num = writesP a.m.s key := fun a ha => by
  obtain ⟨i, hi⟩ := List.mem_iff_getElem?.1 ha
  have := hnum i a hi
  unfold wrAt
  rw [show (a.num - 1).toNat = i by omega, hi]
 have hn : n = d.num := by
  obtain ⟨a, ha, e, _⟩ := hin n (List.mem_of_getElem? hk)
  obtain ⟨i, hi⟩ := List.mem_iff_getElem?.1 ha
  have h1 := hnum i a hi
  rw [show (n - 1).toNat = i by omega, hi] at hd
  rw [e, Option.some.inj hd]
 have hsplit : o = o.take k ++ n :: o.drop (k + 1) := by rw [← drop_at hk, List.take_append_drop]
 have hnd : o.Nodup := hp.nodup_iff.2 (nums_nodup hr)
 have hnd2 : (o.take k ++ n :: o.drop (k + 1)).Nodup := hsplit ▸ hnd
 have hnot : n ∉ o.take k := fun hm => (List.nodup_append.1 hnd2).2.2 n hm n (List.mem_cons_self ..) rfl
 have hndt : (o.take k).Nodup := (List.nodup_append.1 hnd2).1
 have hsub : ∀ x ∈ o.take k, x ∈ o := fun x hx => List.mem_of_mem_take hx
 have hkw : ∀ a ∈ h, writesP a.m.s key = true → key ∈ a.m.s.writes := fun a ha hw => hasK_mem hkey (hR a ha).writes hw
 have hsd := rightP_snap hr d hdm
 -- those that it has read come ahead
 have hA : ∀ a ∈ h, writesP a.m.s key = true → a.num ≤ d.m.s.snap → a.num ∈ o.take k := fun a ha hw hle => by
  have hl : leadsP a d = true := by
   unfold leadsP
   rw [if_neg (by omega), Bool.or_eq_true]
   refine .inl (List.any_eq_true.2 ⟨key, hkw a ha hw, ?_⟩)
   unfold leadK
   rw [decide_eq_true hle, hrd]
   simp
  exact ho (o.take k) n (o.drop (k + 1)) hsplit _ (edges_of hr ha hdm hl) hn.symm
 -- the others come behind
 have hB : ∀ a ∈ h, writesP a.m.s key = true → a.num ∈ o.take k → a.num ≤ d.m.s.snap := fun a ha hw hm => by
  refine Int.not_lt.1 fun hlt => ?_
  have hne : d.num ≠ a.num := fun e => hnot (by rw [hn, e]; exact hm)
  have hl : leadsP d a = true := by
   unfold leadsP
   rw [if_neg hne, Bool.or_eq_true]
   refine .inr ?_
   rw [decide_eq_true hlt]
   exact List.any_eq_true.2 ⟨key, hkw a ha hw, hrd⟩
  obtain ⟨p1, p2, e⟩ := List.append_of_mem hm
  have h1 := ho p1 a.num (p2 ++ n :: o.drop (k + 1)) (by
   rw [← List.cons_append, ← List.append_assoc, ← e]
   exact hsplit) _ (edges_of hr hdm ha hl) rfl
  exact hnot (by rw [e, hn]; exact List.mem_append_left _ h1)
 -- who writes it, rising
 have hC : ∀ a ∈ h, ∀ b ∈ h, writesP a.m.s key = true → writesP b.m.s key = true → b.num < a.num → ∀ q1 q2, o.take k = q1 ++ b.num :: q2 → a.num ∉ q1 := fun a ha b hb hwa hwb hlt q1 q2 e hm => by
  have hl : leadsP b a = true := by
   unfold leadsP
   rw [if_neg (by omega), Bool.or_eq_true]
   refine .inl (List.any_eq_true.2 ⟨key, hkw b hb hwb, ?_⟩)
   unfold leadK
   rw [decide_eq_true hlt, hwa]
   rfl
  obtain ⟨r1, r2, e2⟩ := List.append_of_mem hm
  have h1 := ho r1 a.num (r2 ++ b.num :: q2 ++ n :: o.drop (k + 1)) (by
   rw [show r1 ++ a.num :: (r2 ++ b.num :: q2 ++ n :: o.drop (k + 1)) = (r1 ++ a.num :: r2) ++ b.num :: q2 ++ n :: o.drop (k + 1) by simp, ← e2, ← e]
   exact hsplit) _ (edges_of hr hb ha hl) rfl
  have h2 : b.num ∈ q1 := by rw [e2]; exact List.mem_append_left _ h1
  rw [e] at hndt
  exact (List.nodup_append.1 hndt).2.2 b.num h2 b.num (List.mem_cons_self ..) rfl
 have hV := foldLast (fun x : DoneV => x.num ≤ d.m.s.snap ∧ writesP x.m.s key = true) DoneV.num h
 have hL := foldLast (fun x : Int => wrAt h key x = true) id (o.take k)
 show List.foldl (fun n x => if wrAt h key x = true then id x else n) 0 (o.take k) = List.foldl (fun n (x : DoneV) => if x.num ≤ d.m.s.snap ∧ writesP x.m.s key = true then x.num else n) 0 h
 rcases hL with ⟨hL, hL2⟩ | ⟨q1, x, q2, e, hx, hx2, hL⟩
 · rcases hV with ⟨hV, _⟩ | ⟨pre, a, post, e, ⟨ha1, ha2⟩, _, _⟩
   · rw [hL, hV]
   · have ha : a ∈ h := by rw [e]; simp
     exact absurd (by rw [hwr a ha]; exact ha2) (hL2 a.num (hA a ha ha2 ha1))
 · have hxt : x ∈ o.take k := by rw [e]; simp
   obtain ⟨b, hb, rfl, hb2⟩ := hin x (hsub x hxt)
   have hwb : writesP b.m.s key = true := by rw [← hb2]; exact hx
   have hbs := hB b hb hwb hxt
   rcases hV with ⟨_, hV2⟩ | ⟨pre, a, post, e2, ⟨ha1, ha2⟩, hpost, hV⟩
   · exact absurd ⟨hbs, hwb⟩ (hV2 b hb)
   · rw [hL, hV]
     show b.num = a.num
     have ha : a ∈ h := by rw [e2]; simp
     have hat := hA a ha ha2 ha1
     refine Int.le_antisymm ?_ ?_
     · -- b isn't behind a in the history
       have hbm : b ∈ pre ++ a :: post := e2 ▸ hb
       rcases List.mem_append.1 hbm with hbm | hbm
       · obtain ⟨i, hi⟩ := List.mem_iff_getElem?.1 hbm
         have hil := (List.getElem?_eq_some_iff.1 hi).1
         have h1 := hnum i b (by rw [e2, List.getElem?_append_left hil]; exact hi)
         have h2 := hnum pre.length a (by rw [e2, List.getElem?_append_right (Nat.le_refl _), Nat.sub_self]; rfl)
         omega
       · rcases List.mem_cons.1 hbm with rfl | hbm
         · exact Int.le_refl _
         · exact absurd ⟨hbs, hwb⟩ (hpost b hbm)
     · refine Int.not_lt.1 fun hlt => ?_
       have h1 : a.num ∈ q1 ++ b.num :: q2 := e ▸ hat
       rcases List.mem_append.1 h1 with h1 | h1
       · exact hC a ha b hb ha2 hwb hlt q1 q2 e h1
       · rcases List.mem_cons.1 h1 with h1 | h1
         · omega
         · exact absurd (by rw [hwr a ha]; exact ha2) (hx2 a.num h1)
end Go.Proofs.YtpknmfmpiachkaaGreat
