/- The document's Do answers as the step says. -/
import Derived.Test.YtnjbhjgihcgefaaRefDo7
namespace Go.Proofs.Ytnjbhjgihcgefaa
open Go.RowKit

theorem map_getD_says {us : List L3} {j : Nat} {u : L3} (h : us[j]? = some u) : (us.map L3.says).getD j zSays = u.says := by
  rw [List.getD_eq_getElem?_getD, List.getElem?_map, h]; rfl

theorem rdo_any (P : Nat → Prop) (us : List L3) (most : Int) (a : Option Addr) (n c : Nat) (o : OpL) (w : World) (h : RefAt w P us a n) (hk : 1 ≤ o.kd ∧ o.kd ≤ 6) (hnm : (n : Int) ≤ most) (ho : Sl.ok w o.s) (hop : SlP P o.s) (hlen : ∀ u ∈ us, u.s.len ≤ 140737488355328) (hnew : ∀ b, w.heap.size ≤ b → P b) (hbig : n ≤ 1000000) :
    Calls Try.prog 15 #[.agg #[.int .i64 most, .slice a n c], .agg #[.int .i64 o.kd, .int .i64 o.i, .int .i64 o.k, .int .i64 o.f, .int .i64 o.t, .slice o.s.a o.s.len o.s.cap]] w (RefDo w P most (netStep most (us.map L3.says) o.kd o.i o.k (o.f, o.t, o.s.bs))) := by
  have hl : (us.map L3.says).length = n := by rw [List.length_map, h.len]
  unfold netStep
  rw [hl]
  by_cases h1 : o.kd = 1
  · rw [if_pos h1]
    by_cases hm : (n : Int) = most
    · rw [if_pos hm]; exact rdo_full P us most a n c o w h h1 (by omega)
    · rw [if_neg hm]; exact rdo_send P us most a n c o w h h1 (by omega) ho hop hnew hbig
  rw [if_neg h1]
  by_cases hi : 0 ≤ o.i ∧ o.i < (n : Int)
  case neg => rw [if_pos hi]; exact rdo_out P us most a n c o w h h1 hi
  rw [if_neg (not_not_intro hi)]
  obtain ⟨j, hj⟩ : ∃ j : Nat, o.i = (j : Int) := ⟨o.i.toNat, by omega⟩
  have hjn : j < n := by omega
  have hu : us[j]? = some (us[j]'(by rw [h.len]; exact hjn)) := List.getElem?_eq_getElem _
  obtain ⟨u, hu⟩ : ∃ u, us[j]? = some u := ⟨_, hu⟩
  have hjt : o.i.toNat = j := by omega
  rw [hjt, map_getD_says hu]
  by_cases h2 : o.kd = 2
  · rw [if_pos h2]; exact rdo_take P us most a n c o j u w h h2 hj hjn hu hnew hbig
  rw [if_neg h2]
  by_cases h3 : o.kd = 3
  · rw [if_pos h3]; exact rdo_drop P us most a n c o j u w h h3 hj hjn hu hnew hbig
  rw [if_neg h3]
  by_cases h4 : o.kd = 4
  · rw [if_pos h4]
    by_cases hm : (n : Int) = most
    · rw [if_pos hm]; exact rdo_dfull P us most a n c o j u w h h4 hj hjn hu (by omega)
    · rw [if_neg hm]; exact rdo_double P us most a n c o j u w h h4 hj hjn hu (by omega) hnew hbig
  rw [if_neg h4]
  by_cases h5 : o.kd = 5
  · rw [if_pos h5]
    by_cases hkk : 0 ≤ o.k ∧ o.k < (n : Int)
    case neg => rw [if_pos hkk]; exact rdo_kout P us most a n c o j u w h h5 hj hjn hu hkk
    rw [if_neg (not_not_intro hkk)]
    obtain ⟨m, hm⟩ : ∃ m : Nat, o.k = (m : Int) := ⟨o.k.toNat, by omega⟩
    have hmn : m < n := by omega
    have hv : us[m]? = some (us[m]'(by rw [h.len]; exact hmn)) := List.getElem?_eq_getElem _
    obtain ⟨v, hv⟩ : ∃ v, us[m]? = some v := ⟨_, hv⟩
    have hmt : o.k.toNat = m := by omega
    rw [hmt, map_getD_says hv]
    exact rdo_swap P us most a n c o j m u v w h h5 hj hjn hu hm hmn hv hnew hbig
  rw [if_neg h5]
  have h6 : o.kd = 6 := by omega
  have hul : u.s.bs.length = u.s.len := (h.ok u (List.mem_of_getElem? hu)).1.1.1
  by_cases he : u.says.2.2 = []
  · rw [if_pos he]
    have he' : u.s.bs = [] := he
    exact rdo_empty P us most a n c o j u w h h6 hj hjn hu (by rw [← hul, he']; rfl)
  · rw [if_neg he]
    have he' : u.s.bs ≠ [] := he
    exact rdo_short P us most a n c o j u w h h6 hj hjn hu (by rw [← hul]; exact List.length_pos_iff.2 he') (hlen u (List.mem_of_getElem? hu)) hnew hbig
end Go.Proofs.Ytnjbhjgihcgefaa
