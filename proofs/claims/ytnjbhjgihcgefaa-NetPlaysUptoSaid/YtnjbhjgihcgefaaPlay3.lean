/- NetPlays: letters whose bytes are written over, one by one. -/
import Derived.Test.YtnjbhjgihcgefaaPlay2
namespace Go.Proofs.Ytnjbhjgihcgefaa
open Go.RowKit

/-- what All told in world w0's end: the letters from the j-th on are as they were told -/
structure Left (w0 : World) (vs : List L3) (av : Option Addr) (n cv j : Nat) (w : World) : Prop where
  low : Below w0.heap.size w0 w
  len : vs.length = n
  row : w.ownsRow w0.heap.size 30 3 (.slice av n cv) n (vs.flatMap L3.cells)
  own : ∀ v ∈ vs, ∃ bs, Own8 w w0.heap.size v.s.a v.s.len v.s.cap bs
  left : ∀ v ∈ vs.drop j, Own8 w w0.heap.size v.s.a v.s.len v.s.cap v.s.bs
theorem Left.of_own {w0 w : World} {vs : List L3} {av : Option Addr} {n cv : Nat} (h : OwnL w w0.heap.size vs av n cv) (hb : Below w0.heap.size w0 w) : Left w0 vs av n cv 0 w :=
  ⟨hb, h.len, h.row, fun v hv => ⟨_, h.own v hv⟩, fun v hv => h.own v (by rwa [List.drop_zero] at hv)⟩
theorem Left.below {w0 w w' : World} {vs : List L3} {av : Option Addr} {n cv j : Nat} (h : Left w0 vs av n cv j w) (hb : Below w.heap.size w w') : Left w0 vs av n cv j w' :=
  ⟨below_then h.low hb, h.len, own_keep h.row fun g _ hl => hb.block g hl, fun v hv => by
    obtain ⟨bs, hq⟩ := h.own v hv
    exact ⟨bs, own_keep hq fun g _ hl => hb.block g hl⟩, fun v hv => own_keep (h.left v hv) fun g _ hl => hb.block g hl⟩
theorem Left.next {w0 w : World} {vs : List L3} {av : Option Addr} {n cv j : Nat} (h : Left w0 vs av n cv j w) : Left w0 vs av n cv (j + 1) w :=
  ⟨h.low, h.len, h.row, h.own, fun v hv => h.left v (by
    rw [← List.drop_drop] at hv
    exact List.mem_of_mem_drop hv)⟩
theorem drop_at {vs : List L3} {j : Nat} {v : L3} (hv : vs[j]? = some v) : vs.drop j = v :: vs.drop (j + 1) := by
  obtain ⟨hl, h2⟩ := List.getElem?_eq_some_iff.1 hv
  rw [List.drop_eq_getElem_cons hl, h2]
theorem Left.set {w0 w : World} {vs : List L3} {av : Option Addr} {n cv j g len c i : Nat} {bs : List UInt8} {v : L3} (h : Left w0 vs av n cv (j + 1) w) (hp : Parted vs) (hv : vs[j]? = some v) (hg : v.s.a = some ⟨g, 0, none⟩) (ho : Own8 w w0.heap.size (some ⟨g, 0, none⟩) len c bs) (x : UInt8) :
    Left w0 vs av n cv (j + 1) (w.setCell ⟨g, i, none⟩ (.int .u8 (x.toNat : Nat))) := by
  have hgb := (ho.lt g rfl).1
  refine ⟨below_set h.low _ hgb, h.len, own_keep h.row fun k hk _ => Below.heap_setCell w _ _ k (fun e => ?_), fun u hu => ?_, fun u hu => own_keep (h.left u hu) fun k hk _ => Below.heap_setCell w _ _ k (fun e => ?_)⟩
  · simp only at e
    subst e
    exact own_apart ho h.row (by decide) k rfl hk
  · obtain ⟨us, hus⟩ := h.own u hu
    rcases hus.2 with ⟨h1, h2⟩ | ⟨g2, cp, cur, h1, _⟩
    · exact ⟨us, hus.1, .inl ⟨h1, h2⟩⟩
    · injection h1 with h1 h2 h3
      by_cases hgg : g2 = g
      · subst hgg
        rw [h1] at hus ⊢
        exact ⟨_, hus.store i x⟩
      · refine ⟨us, own_keep hus fun k hk _ => Below.heap_setCell w _ _ k (fun e => ?_)⟩
        rw [h1] at hk
        injection hk with hk
        simp only at e hk
        omega
  · simp only at e
    subst e
    have hpp : vs.Pairwise _ := hp
    rw [← List.take_append_drop j vs, drop_at hv] at hpp
    have h2 := (List.pairwise_cons.1 (List.pairwise_append.1 hpp).2.1).1 u hu k (by rw [hg]; rfl)
    exact h2 ((own_addr _ _ _ 0 0).symm.trans hk)
theorem says_at {vs us : List L3} {j : Nat} {v u : L3} (h : vs.map L3.says = us.map L3.says) (hv : vs[j]? = some v) (hu : us[j]? = some u) : v.says = u.says := by
  have h1 := congrArg (fun l => l[j]?) h
  simp only [List.getElem?_map, hv, hu, Option.map_some, Option.some.injEq] at h1
  exact h1
/-- the law's look at a letter: it says what the document's says -/
theorem same_says {v u : L3} (h : v.says = u.says) {Z : World} (hv : Row8 Z v.s.a v.s.len v.s.bs) (hu : Row8 Z u.s.a u.s.len u.s.bs) (h1 : v.s.len ≤ maxLen) (h2 : u.s.len ≤ maxLen) :
    Calls Try.prog 17 #[.agg #[.int .i64 v.f, .int .i64 v.t, .slice v.s.a v.s.len v.s.cap], .agg #[.int .i64 u.f, .int .i64 u.t, .slice u.s.a u.s.len u.s.cap]] Z (RetBox Z (.bool true)) := by
  have h3 := rsame_any v.f v.t u.f u.t v.s.a u.s.a v.s.len v.s.cap u.s.len u.s.cap v.s.bs u.s.bs Z hv hu h1 h2
  rw [decide_eq_true (show ((v.f, v.t, v.s.bs) : Says) = (u.f, u.t, u.s.bs) from h)] at h3
  exact h3
end Go.Proofs.Ytnjbhjgihcgefaa
