/- The document's example. -/
import Derived.Test.YtnjbhjgihcgefaaAll
import Derived.Lib.SlBytesConst
namespace Go.Proofs.Ytnjbhjgihcgefaa
open Go.RowKit

/-- 'string(b)' -/
theorem Row8.string {w : World} {a : Option Addr} {len cap : Nat} {bs : List UInt8} (h : Row8 w a len bs) (hl : 0 < len) :
    (convert 26 9 (.slice a len cap)).run Try.prog w = .ok (.string ⟨bs.toArray⟩) w := by
  obtain ⟨b, off, rfl, _⟩ := h.2 0 hl
  have e := run_convert_bytes_arg (P := Try.prog) w 26 5 Try.underlying26 Try.underlying5 b off len cap (bs.map fun c => ((c.toNat : Nat) : Int)) (by rw [List.length_map, h.1]) (fun i hi => by
    obtain ⟨b', off', he, hc⟩ := h.2 i hi
    simp only [Option.some.injEq, Addr.mk.injEq, and_true] at he
    obtain ⟨rfl, rfl⟩ := he
    rw [hc]
    have hb : i < bs.length := by rw [h.1]; exact hi
    rw [List.getD_eq_getElem?_getD, List.getD_eq_getElem?_getD, List.getElem?_map, List.getElem?_eq_getElem hb]
    rfl) 9 Try.underlying9
  rw [e]
  congr 2
  apply ByteArray.ext
  apply Array.toList_inj.1
  rw [strOfNums_data, List.map_map]
  show List.map _ bs = bs
  conv => rhs; rw [← List.map_id bs]
  apply List.map_congr_left
  intro x _
  simp

theorem NStep.below {w w' : World} {N n cap : Nat} {most : Int} {ls : List L3} {ao ao' : Option Addr} (h : NetAt w N most ls ao n cap) (hs : NStep w w' N ao ao') : Below N w w' :=
  ⟨hs.os, hs.tape, hs.output, hs.size, fun k hk => hs.block k (Nat.lt_trans hk (lt_of_block h.cell)) (by omega) (fun e => by rw [own_addr ao 0 0 n cap] at e; have := (h.row.lt k e).1; omega)⟩

theorem says_three {us : List L3} {x y z : Int × Int × List UInt8} (h : us.map L3.says = [x, y, z]) : ∃ a b c, us = [a, b, c] ∧ a.s.bs = x.2.2 ∧ b.s.bs = y.2.2 ∧ c.s.bs = z.2.2 := by
  match us, h with
  | [a, b, c], h =>
    simp only [List.map_cons, List.map_nil, List.cons.injEq, and_true] at h
    exact ⟨a, b, c, rfl, by rw [← h.1]; rfl, by rw [← h.2.1]; rfl, by rw [← h.2.2]; rfl⟩
  | [], h => cases h
  | [_], h => simp at h
  | [_, _], h => simp at h
  | _ :: _ :: _ :: _ :: _, h => simp at h

set_option maxRecDepth 100000 in
set_option maxHeartbeats 3200000 in
theorem alive_any (w : World) : Calls Try.prog 7 #[] w fun e w' => e = .returned (.bool true) ∧ Below w.heap.size w w' := by
  have kc := fun (w : World) (C : Array Value) (n c : Nat) => Lib.run_convert_bytes_const (P := Try.prog) w 26 5 C n c Try.underlying26 Try.underlying5
  go_enter Try.func7, Try.ntmps7
  go_wp2_with fail
  refine (new_any 9 _).mono ?_
  rintro e w1 ⟨rfl, hN1, hb1⟩
  have hm : mostOf 9 = 9 := by decide
  rw [hm] at hN1
  have hz1 := hb1.size
  have hl1 := lt_of_block hN1.cell
  go_wp2_with fail
  refine (send_any w.heap.size 9 [] none 0 0 0 0 (some ⟨w1.heap.size, 0, none⟩) 1 1 [97] _ (hN1.below ((Below.refl _ _).alloc (Nat.le_refl _) _)) (by decide) (by decide) (Row8.new _ _ _ _ [97] 1 rfl rfl) (fun h => by cases h) (by decide)).mono ?_
  rintro e w2 ⟨rfl, s2, ao2, cap2, hb2, hl2, hN2, hs2⟩
  have hbw2 : Below w.heap.size w w2 := (hb1.alloc hz1 _).trans (NStep.below (hN1.below ((Below.refl _ _).alloc (Nat.le_refl _) _)) hs2)
  have hz2 := hbw2.size
  have hl2' := lt_of_block hN2.cell
  clear hN1 hs2 hb1
  go_wp2_with fail
  refine (send_any w.heap.size 9 _ ao2 1 cap2 0 0 (some ⟨w2.heap.size, 0, none⟩) 1 1 [98] _ (hN2.below ((Below.refl _ _).alloc (Nat.le_refl _) _)) (by decide) (by decide) (Row8.new _ _ _ _ [98] 1 rfl rfl) (fun h => by cases h) (by decide)).mono ?_
  rintro e w3 ⟨rfl, s3, ao3, cap3, hb3, hl3, hN3, hs3⟩
  have hbw3 : Below w.heap.size w w3 := (hbw2.alloc hz2 _).trans (NStep.below (hN2.below ((Below.refl _ _).alloc (Nat.le_refl _) _)) hs3)
  have hz3 := hbw3.size
  have hl3' := lt_of_block hN3.cell
  clear hN2 hs3 hbw2
  go_wp2_with fail
  refine (double_ok w.heap.size 9 _ ao3 2 cap3 0 ⟨0, 0, s2⟩ _ hN3 (by decide) rfl (by decide) (by decide) (by simp only; omega)).mono ?_
  rintro e w4 ⟨rfl, s4, ao4, cap4, hb4, hl4, hN4, hs4⟩
  have hbw4 : Below w.heap.size w w4 := hbw3.trans (NStep.below hN3 hs4)
  have hl4' := lt_of_block hN4.cell
  clear hN3 hs4 hbw3
  go_wp2_with fail
  refine (swap_ne w.heap.size 9 _ ao4 3 cap4 0 1 ⟨0, 0, s2⟩ ⟨0, 0, s3⟩ _ hN4 (by decide) (by decide) (by decide) rfl rfl).mono ?_
  rintro e w5 ⟨rfl, hN5, hs5⟩
  have hbw5 : Below w.heap.size w w5 := hbw4.trans (NStep.below hN4 hs5)
  have hz5 := hbw5.size
  clear hN4 hs5 hbw4
  go_wp2_with fail
  refine (all_any w.heap.size 9 _ ao4 3 cap4 _ hN5 (by decide) (fun l hl => by
    simp [swapL] at hl
    rcases hl with rfl | rfl | rfl <;> (simp only; omega))).mono ?_
  rintro e w6 ⟨us, ao6, cap6, rfl, hsay, hO6, hb6⟩
  have hN6 := hN5.below hb6
  obtain ⟨u0, u1, u2, rfl, e0, e1, e2⟩ := says_three (show us.map L3.says = [(0, 0, s3.bs), (0, 0, s2.bs), (0, 0, s4.bs)] from hsay)
  simp only at hb2 hb3 hb4 e0 e1 e2
  have hbw6 := hbw5.trans (hb6.mono hz5)
  have o0 := hO6.own u0 (by simp)
  have o1 := hO6.own u1 (by simp)
  have o2 := hO6.own u2 (by simp)
  rw [e0, hb3] at o0
  rw [e1, hb2] at o1
  rw [e2, hb4, hb2] at o2
  have p0 : 1 = u0.s.len := o0.length
  have p1 : 1 = u1.s.len := o1.length
  have p2 : 1 = u2.s.len := o2.length
  have t0 := o0.row.string (cap := u0.s.cap) (by omega)
  have t1 := o1.row.string (cap := u1.s.cap) (by omega)
  have t2 := o2.row.string (cap := u2.s.cap) (by omega)
  obtain ⟨b, off, hao, a0, a1, a2⟩ := letters_at (RowN.of_own hO6.row) rfl 0 (by decide) u0 rfl
  obtain ⟨b', off', hao', b0, b1, b2⟩ := letters_at (RowN.of_own hO6.row) rfl 1 (by decide) u1 rfl
  obtain ⟨b'', off'', hao'', c0, c1, c2⟩ := letters_at (RowN.of_own hO6.row) rfl 2 (by decide) u2 rfl
  subst hao
  injection hao' with hao'
  injection hao' with x1 x2 _
  subst x1 x2
  injection hao'' with hao''
  injection hao'' with x1 x2 _
  subst x1 x2
  have HN6 := Lib.hid hN6
  clear hN5 hN6 hb6 hsay hO6 o0 o1 o2 p0 p1 p2 e0 e1 e2 hb2 hb3 hb4 a0 a1 b0 b1 c0 c1 hbw5
  simp only [Nat.zero_mul, Nat.one_mul, Nat.add_zero] at a2 b2 c2
  go_wp2_with fail
  refine (len_any w.heap.size 9 _ ao4 3 cap4 _ HN6.out).mono ?_
  rintro e w7 ⟨rfl, rfl⟩
  go_wp2_with fail
  go_ret
  exact ⟨rfl, hbw6⟩
end Go.Proofs.Ytnjbhjgihcgefaa
