/- Bytes as numbers, all of them: the document's way to a configuration's bytes. -/
import Derived.Test.YtpaommkjafdghaaRm3
import Derived.Test.YtpaommkjafdghaaRnum
namespace Go.Proofs.Ytpaommkjafdghaa
open Go.RowKit

theorem numGo_suf : ∀ (bs : List UInt8) (i u v : Nat) (r : List UInt8), numGo i u bs = some (v, r) → ∃ k, 1 ≤ k ∧ k ≤ bs.length ∧ r = bs.drop k
  | [], i, u, v, r, h => by simp [numGo] at h
  | c :: t, i, u, v, r, h => by
    rw [numGo] at h
    split at h
    · cases h
    · split at h
      · injection h with h
        injection h with _ h
        exact ⟨1, by omega, by simp, h.symm⟩
      · obtain ⟨k, h1, h2, h3⟩ := numGo_suf t _ _ v r h
        exact ⟨k + 1, by omega, by simp; omega, by rw [List.drop_succ_cons]; exact h3⟩
theorem getCount_suf {most : Int} {bs r : List UInt8} {v : Int} (h : getCount most bs = some (v, r)) : numK bs = (v, bs.length - r.length) ∧ ∃ k, 1 ≤ k ∧ k ≤ bs.length ∧ r = bs.drop k := by
  unfold getCount at h
  cases hg : getNum bs with
  | none => rw [hg] at h; cases h
  | some p =>
    obtain ⟨n, r'⟩ := p
    rw [hg] at h
    simp only at h
    split at h
    · cases h
    · injection h with h
      injection h with h1 h2
      subst h1 h2
      refine ⟨numK_get hg, ?_⟩
      unfold getNum at hg
      cases hq : numGo 0 0 bs with
      | none => rw [hq] at hg; cases hg
      | some q =>
        obtain ⟨v, r''⟩ := q
        rw [hq] at hg
        simp only [Option.map_some, Option.some.injEq, Prod.mk.injEq] at hg
        obtain ⟨_, rfl⟩ := hg
        exact numGo_suf bs 0 0 v r'' hq
theorem getCount_none {most : Int} {bs : List UInt8} (h : getCount most bs = none) : (numK bs).2 = 0 ∨ ((numK bs).1 < 0 ∨ most < (numK bs).1) := by
  unfold getCount at h
  cases hg : getNum bs with
  | none => rw [numK_no hg]; exact .inl rfl
  | some p =>
    obtain ⟨n, r'⟩ := p
    rw [hg] at h
    simp only at h
    rw [numK_get hg]
    split at h
    · rename_i hc
      exact .inr hc
    · cases h
/-- all bytes as numbers from 0 to 7 -/
def readAll : Nat → List UInt8 → Option (List Int)
  | _, [] => some []
  | 0, _ :: _ => none
  | n + 1, c :: t => match getCount 7 (c :: t) with
    | none => none
    | some (v, r) => (readAll n r).map (v :: ·)
theorem readAll_more : ∀ (n : Nat) (bs : List UInt8) (m : Nat), bs.length ≤ n → n ≤ m → readAll m bs = readAll n bs
  | 0, bs, m, hb, _ => by
    have : bs = [] := List.eq_nil_of_length_eq_zero (by omega)
    subst this
    cases m <;> rfl
  | n + 1, bs, m, hb, hm => by
    cases m with
    | zero => omega
    | succ m =>
      cases bs with
      | nil => rfl
      | cons c t =>
        rw [readAll, readAll]
        cases hg : getCount 7 (c :: t) with
        | none => rfl
        | some p =>
          obtain ⟨v, r⟩ := p
          obtain ⟨_, k, h1, h2, h3⟩ := getCount_suf hg
          have hl : r.length ≤ n := by rw [h3, List.length_drop]; simp at hb ⊢; omega
          simp only
          rw [readAll_more n r m hl (by omega)]
def allN (bs : List UInt8) : Option (List Int) := readAll bs.length bs
theorem allN_nil : allN [] = some [] := rfl
theorem allN_step {bs : List UInt8} (h : bs ≠ []) : allN bs = match getCount 7 bs with
    | none => none
    | some (v, r) => (allN r).map (v :: ·) := by
  cases bs with
  | nil => exact absurd rfl h
  | cons c t =>
    unfold allN
    rw [List.length_cons, readAll]
    cases hg : getCount 7 (c :: t) with
    | none => rfl
    | some p =>
      obtain ⟨v, r⟩ := p
      obtain ⟨_, k, h1, h2, h3⟩ := getCount_suf hg
      have hl : r.length ≤ t.length := by rw [h3, List.length_drop]; simp; omega
      simp only
      rw [readAll_more r.length r t.length (Nat.le_refl _) hl]
theorem getCount_nil (most : Int) : getCount most [] = none := rfl
theorem allN_empty {bs : List UInt8} (h : allN bs = some []) : bs = [] := by
  cases bs with
  | nil => rfl
  | cons c t =>
    rw [allN_step (by simp)] at h
    cases hg : getCount 7 (c :: t) with
    | none => rw [hg] at h; cases h
    | some p =>
      obtain ⟨v, r⟩ := p
      rw [hg] at h
      simp only at h
      cases ha : allN r <;> rw [ha] at h <;> simp at h
theorem readNs_ok : ∀ (k : Nat) (bs : List UInt8) (acc ns : List Int), allN bs = some ns → k ≤ ns.length → ∃ r, readNs k bs acc = some (acc ++ ns.take k, r) ∧ allN r = some (ns.drop k)
  | 0, bs, acc, ns, h, _ => ⟨bs, by rw [readNs, List.take_zero, List.append_nil], by rw [List.drop_zero]; exact h⟩
  | k + 1, bs, acc, ns, h, hk => by
    have hne : bs ≠ [] := fun e => by subst e; rw [allN_nil] at h; injection h with h; subst h; simp at hk
    rw [allN_step hne] at h
    rw [readNs]
    cases hg : getCount 7 bs with
    | none => rw [hg] at h; cases h
    | some p =>
      obtain ⟨v, r⟩ := p
      rw [hg] at h
      simp only at h ⊢
      cases ha : allN r with
      | none => rw [ha] at h; cases h
      | some ms =>
        rw [ha] at h
        simp only [Option.map_some, Option.some.injEq] at h
        subst h
        obtain ⟨r2, h1, h2⟩ := readNs_ok k r (acc ++ [v]) ms ha (by simpa using hk)
        exact ⟨r2, by rw [h1, List.take_succ_cons, List.append_assoc]; rfl, by rw [h2, List.drop_succ_cons]⟩
theorem readNs_short : ∀ (k : Nat) (bs : List UInt8) (acc ns : List Int), allN bs = some ns → ns.length < k → readNs k bs acc = none
  | 0, _, _, _, _, hk => by omega
  | k + 1, bs, acc, ns, h, hk => by
    rw [readNs]
    cases hg : getCount 7 bs with
    | none => rfl
    | some p =>
      obtain ⟨v, r⟩ := p
      have hne : bs ≠ [] := fun e => by subst e; cases hg
      rw [allN_step hne, hg] at h
      simp only at h ⊢
      cases ha : allN r with
      | none => rw [ha] at h; cases h
      | some ms =>
        rw [ha] at h
        simp only [Option.map_some, Option.some.injEq] at h
        subst h
        exact readNs_short k r _ ms ha (by simpa using hk)
theorem readNs_bad : ∀ (k : Nat) (bs : List UInt8) (acc v : List Int) (r : List UInt8), allN bs = none → readNs k bs acc = some (v, r) → allN r = none
  | 0, bs, acc, v, r, h, hr => by
    rw [readNs] at hr
    injection hr with hr
    injection hr with _ hr
    rw [← hr]
    exact h
  | k + 1, bs, acc, v, r, h, hr => by
    rw [readNs] at hr
    cases hg : getCount 7 bs with
    | none => rw [hg] at hr; cases hr
    | some p =>
      obtain ⟨x, t⟩ := p
      have hne : bs ≠ [] := fun e => by subst e; cases hg
      rw [allN_step hne, hg] at h
      rw [hg] at hr
      simp only at h hr
      refine readNs_bad k t _ v r ?_ hr
      cases ha : allN t with
      | none => rfl
      | some ms => rw [ha] at h; cases h
/-- the two rows of numbers of all numbers -/
def splitC (ns : List Int) : Option (List Int × List Int) :=
  if ns.length < 2 ∨ (ns.length : Int) < ns.getD 0 0 + 2 ∨ (ns.length : Int) ≠ ns.getD 0 0 + 2 + ns.getD ((ns.getD 0 0 + 1).toNat) 0 then none
  else some ((ns.drop 1).take (ns.getD 0 0).toNat, ns.drop ((ns.getD 0 0).toNat + 2))
theorem allN_range : ∀ (n : Nat) (bs : List UInt8) (ns : List Int), readAll n bs = some ns → ∀ z ∈ ns, 0 ≤ z ∧ z ≤ 7
  | _, [], ns, h, z, hz => by
    rw [readAll] at h
    injection h with h
    subst h
    cases hz
  | 0, _ :: _, ns, h, z, hz => by rw [readAll] at h; cases h
  | n + 1, c :: t, ns, h, z, hz => by
    rw [readAll] at h
    cases hg : getCount 7 (c :: t) with
    | none => rw [hg] at h; cases h
    | some p =>
      obtain ⟨v, r⟩ := p
      rw [hg] at h
      simp only at h
      cases ha : readAll n r with
      | none => rw [ha] at h; cases h
      | some ms =>
        rw [ha] at h
        simp only [Option.map_some, Option.some.injEq] at h
        subst h
        rcases List.mem_cons.1 hz with rfl | hz
        · exact getCount_range hg
        · exact allN_range n r ms ha z hz
theorem readGrp_ok {bs : List UInt8} {v : Int} {ns : List Int} (h : allN bs = some (v :: ns)) (hk : v.toNat ≤ ns.length) : ∃ r, readGrp bs = some (ns.take v.toNat, r) ∧ allN r = some (ns.drop v.toNat) := by
  obtain ⟨r, h1, h2⟩ := readNs_ok 1 bs [] (v :: ns) h (by simp)
  rw [readNs] at h1
  unfold readGrp
  cases hg : getCount 7 bs with
  | none => rw [hg] at h1; cases h1
  | some p =>
    obtain ⟨x, t⟩ := p
    rw [hg] at h1
    simp only [readNs, List.nil_append, List.take_succ_cons, List.take_zero, Option.some.injEq, Prod.mk.injEq, List.cons.injEq, and_true] at h1
    obtain ⟨rfl, rfl⟩ := h1
    simp only
    obtain ⟨r3, h3, h4⟩ := readNs_ok x.toNat t [] ns (by simpa using h2) hk
    exact ⟨r3, by simpa using h3, h4⟩
theorem readGrp_no {bs : List UInt8} {v : Int} {ns : List Int} (h : allN bs = some (v :: ns)) (hk : ns.length < v.toNat) : readGrp bs = none := by
  obtain ⟨r, h1, h2⟩ := readNs_ok 1 bs [] (v :: ns) h (by simp)
  rw [readNs] at h1
  unfold readGrp
  cases hg : getCount 7 bs with
  | none => rfl
  | some p =>
    obtain ⟨x, t⟩ := p
    rw [hg] at h1
    simp only [readNs, List.nil_append, List.take_succ_cons, List.take_zero, Option.some.injEq, Prod.mk.injEq, List.cons.injEq, and_true] at h1
    obtain ⟨rfl, rfl⟩ := h1
    simp only
    exact readNs_short x.toNat t [] ns (by simpa using h2) hk
theorem readGrp_bad {bs r : List UInt8} {v : List Int} (h : allN bs = none) (hr : readGrp bs = some (v, r)) : allN r = none := by
  unfold readGrp at hr
  cases hg : getCount 7 bs with
  | none => rw [hg] at hr; cases hr
  | some p =>
    obtain ⟨x, t⟩ := p
    have hne : bs ≠ [] := fun e => by subst e; cases hg
    rw [allN_step hne, hg] at h
    rw [hg] at hr
    simp only at h hr
    refine readNs_bad _ t _ v r ?_ hr
    cases ha : allN t with
    | none => rfl
    | some ms => rw [ha] at h; cases h
theorem readGrp_nil : readGrp [] = none := rfl
theorem loadOf_all (bs : List UInt8) : loadOf bs = match allN bs with
    | none => none
    | some ns => match splitC ns with
      | none => none
      | some (v, l) => if confRight v l = true then some (v, l) else none := by
  have hload : ∀ {v l : List Int} {r r2 : List UInt8}, readGrp bs = some (v, r) → readGrp r = some (l, r2) → loadOf bs = if r2 = [] then (if confRight v l = true then some (v, l) else none) else none := fun {v l r r2} h1 h2 => by
    unfold loadOf readConf
    rw [readStage_zero (l2 := []) h1, readStage_one h2]
    simp only [readStage, readFin]
    by_cases hc : confRight v l = true
    · rw [if_pos hc]
      cases r2 with
      | nil => simp [hc]
      | cons a t => simp
    · rw [if_neg hc]
      cases r2 with
      | nil => simp [hc]
      | cons a t => simp
  have hno1 : readGrp bs = none → loadOf bs = none := fun h => by
    unfold loadOf readConf
    rw [readStage_none (by decide) h]
  have hno2 : ∀ {v r}, readGrp bs = some (v, r) → readGrp r = none → loadOf bs = none := fun {v r} h1 h2 => by
    unfold loadOf readConf
    rw [readStage_zero (l2 := []) h1, readStage_none (by decide) h2]
  cases ha : allN bs with
  | none =>
    simp only
    cases h1 : readGrp bs with
    | none => exact hno1 h1
    | some p =>
      obtain ⟨v, r⟩ := p
      have hr := readGrp_bad ha h1
      cases h2 : readGrp r with
      | none => exact hno2 h1 h2
      | some q =>
        obtain ⟨l, r2⟩ := q
        have hr2 := readGrp_bad hr h2
        rw [hload h1 h2, if_neg (fun e => by subst e; rw [allN_nil] at hr2; cases hr2)]
  | some ns =>
    simp only
    cases ns with
    | nil =>
      have hb := allN_empty ha
      subst hb
      rw [hno1 readGrp_nil]
      rfl
    | cons v0 t0 =>
      have hv0 := allN_range _ bs _ ha v0 (List.mem_cons_self ..)
      by_cases hk : v0.toNat ≤ t0.length
      · obtain ⟨r, h1, h2⟩ := readGrp_ok ha hk
        cases ht : t0.drop v0.toNat with
        | nil =>
          rw [ht] at h2
          have hr := allN_empty h2
          subst hr
          rw [hno2 h1 readGrp_nil]
          have hl : t0.length ≤ v0.toNat := List.drop_eq_nil_iff.1 ht
          unfold splitC
          rw [if_pos (.inr (.inl (by simp; omega)))]
        | cons l0 t1 =>
          rw [ht] at h2
          have hl0 := allN_range _ r _ h2 l0 (List.mem_cons_self ..)
          have hlen : t0.length = v0.toNat + 1 + t1.length := by
            have := congrArg List.length ht
            rw [List.length_drop, List.length_cons] at this
            omega
          have hat : t0.getD v0.toNat 0 = l0 := by
            rw [List.getD_eq_getElem?_getD]
            have h3 : (t0.drop v0.toNat)[0]? = some l0 := by rw [ht]; rfl
            rw [List.getElem?_drop, Nat.add_zero] at h3
            rw [h3]
            rfl
          have hi : (v0 + 1).toNat = v0.toNat + 1 := by omega
          have hdr : t0.drop (v0.toNat + 1) = t1 := by
            rw [← List.drop_drop, ht]
            rfl
          have hsp : splitC (v0 :: t0) = if t1.length = l0.toNat then some (t0.take v0.toNat, t1) else none := by
            unfold splitC
            simp only [List.length_cons, List.getD_cons_zero, List.drop_succ_cons, List.drop_zero]
            rw [hi, List.getD_cons_succ, hat, hdr]
            by_cases hc : t1.length = l0.toNat
            · rw [if_pos hc, if_neg (by push_cast; omega)]
            · rw [if_neg hc, if_pos (by push_cast; omega)]
          rw [hsp]
          by_cases hc : l0.toNat ≤ t1.length
          · obtain ⟨r2, h3, h4⟩ := readGrp_ok h2 hc
            rw [hload h1 h3]
            by_cases he : t1.length = l0.toNat
            · have ht1 : t1.take l0.toNat = t1 := List.take_of_length_le (by omega)
              rw [List.drop_of_length_le (by omega)] at h4
              rw [if_pos he, ht1, if_pos (allN_empty h4)]
            · rw [if_neg he, if_neg (fun e => by
                subst e
                rw [allN_nil] at h4
                injection h4 with h4
                have := congrArg List.length h4
                rw [List.length_drop, List.length_nil] at this
                omega)]
          · rw [hno2 h1 (readGrp_no h2 (by omega)), if_neg (by omega)]
      · rw [hno1 (readGrp_no ha (by omega))]
        unfold splitC
        rw [if_pos (.inr (.inl (by simp; omega)))]
end Go.Proofs.Ytpaommkjafdghaa
