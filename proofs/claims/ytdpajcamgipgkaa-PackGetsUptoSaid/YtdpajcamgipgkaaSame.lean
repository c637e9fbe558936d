/- The document's Same of two lists of values: where they are the same. -/
import Derived.Test.YtdpajcamgipgkaaOf
import Derived.Test.YtdpajcamgipgkaaFloFrom
import Derived.Test.YtdpajcamgipgkaaValue
namespace Go.Proofs.Ytdpajcamgipgkaa
open Go.RowKit

/-- the same, in what the kind names -/
structure SameV (v u : Vl) : Prop where
  kind : u.kind = v.kind
  k : 1 ≤ v.kind ∧ v.kind ≤ 4
  n : v.kind = 1 → u.n = v.n
  x : v.kind = 2 → Flo.canon v.x = Flo.canon u.x
  b : v.kind = 3 → u.s.bs = v.s.bs
  on : v.kind = 4 → u.on = v.on

theorem two_first (w : World) (cs cs' : Array Value) (t t' : TypeId) : ((w.alloc (.cells cs t)).alloc (.cells cs' t')).drew.heap[w.heap.size]? = some (.cells cs t (0, 0)) :=
  (heap_alloc_old (w.alloc (.cells cs t)) _ (by rw [World.size_alloc]; omega)).trans (heap_alloc_new w _)
theorem two_second (w : World) (cs cs' : Array Value) (t t' : TypeId) : ((w.alloc (.cells cs t)).alloc (.cells cs' t')).drew.heap[w.heap.size + 1]? = some (.cells cs' t' (0, 0)) := by
  have := heap_alloc_new (w.alloc (.cells cs t)) (.cells cs' t')
  rw [World.size_alloc] at this
  exact this

set_option maxRecDepth 100000 in
set_option maxHeartbeats 3200000 in
theorem refSame_any (a b : Option Addr) (n ca cb : Nat) (vs us : List Vl) (w : World) (hr : RowN w a 5 n (vs.flatMap Vl.cells)) (hs : vs.length = n) (hok : ∀ v ∈ vs, Vl.ok w v)
    (hr' : RowN w b 5 n (us.flatMap Vl.cells)) (hs' : us.length = n) (hok' : ∀ v ∈ us, Vl.ok w v) (hsame : ∀ (i : Nat) v u, vs[i]? = some v → us[i]? = some u → SameV v u) (hn : n ≤ 1000000000) :
    Calls Try.prog 39 #[.slice a n ca, .slice b n cb] w fun e w' => e = .returned (.bool true) ∧ Below w.heap.size w w' := by
  have hstf := store_float
  have HR := Lib.hid hr
  have HS := Lib.hid hs
  have HOK := Lib.hid hok
  have HR' := Lib.hid hr'
  have HS' := Lib.hid hs'
  have HOK' := Lib.hid hok'
  have HSAME := Lib.hid hsame
  clear hr hs hok hr' hs' hok' hsame
  go_enter Try.func39, Try.ntmps39
  go_wp2_with fail
  go_loopw [5] (fun i wr => ∃ k : Nat, k ≤ n ∧ i = .int .i64 k ∧ Below w.heap.size w wr) (fun i _ => n - (intOf i).toNat)
  case atStart => exact ⟨0, by omega, rfl, Below.refl _ _⟩
  case round =>
    obtain ⟨k, hk, rfl, hbw⟩ := hrel
    have hsz := hbw.size
    by_cases hlt : k < n
    · obtain ⟨v, hv⟩ : ∃ v, vs[k]? = some v := ⟨_, List.getElem?_eq_getElem (by rw [HS.out]; exact hlt)⟩
      obtain ⟨u, hu⟩ : ∃ u, us[k]? = some u := ⟨_, List.getElem?_eq_getElem (by rw [HS'.out]; exact hlt)⟩
      have hvu := HSAME.out k v u hv hu
      obtain ⟨kd, n1, x1, s1, o1⟩ := v
      obtain ⟨kd', n2, x2, s2, o2⟩ := u
      obtain rfl : kd' = kd := hvu.kind
      have hvok := HOK.out _ (List.mem_of_getElem? hv)
      have huok := HOK'.out _ (List.mem_of_getElem? hu)
      have hat := fun w' (h : Below wr.heap.size wr w') => vals_at ((HR.out.below hbw).below h) HS.out k hlt _ hv
      have hat' := fun w' (h : Below wr.heap.size wr w') => vals_at ((HR'.out.below hbw).below h) HS'.out k hlt _ hu
      obtain ⟨ba, offa, rfl, _⟩ := hat wr (Below.refl _ _)
      obtain ⟨bb, offb, rfl, _⟩ := hat' wr (Below.refl _ _)
      have hkeep : ∀ w', Below wr.heap.size wr w' → (w'.cell? ⟨ba, offa + k * 5, none⟩ = some (.int .i64 kd') ∧ w'.cell? ⟨ba, offa + k * 5 + 1, none⟩ = some (.int .i64 n1) ∧ w'.cell? ⟨ba, offa + k * 5 + 2, none⟩ = some (.float .f64 x1) ∧
          w'.cell? ⟨ba, offa + k * 5 + 3, none⟩ = some (.slice s1.a s1.len s1.cap) ∧ w'.cell? ⟨ba, offa + k * 5 + 4, none⟩ = some (.bool o1)) ∧
          (w'.cell? ⟨bb, offb + k * 5, none⟩ = some (.int .i64 kd') ∧ w'.cell? ⟨bb, offb + k * 5 + 1, none⟩ = some (.int .i64 n2) ∧ w'.cell? ⟨bb, offb + k * 5 + 2, none⟩ = some (.float .f64 x2) ∧
          w'.cell? ⟨bb, offb + k * 5 + 3, none⟩ = some (.slice s2.a s2.len s2.cap) ∧ w'.cell? ⟨bb, offb + k * 5 + 4, none⟩ = some (.bool o2)) := fun w' h => by
        obtain ⟨b1, o1, e1, h1⟩ := hat w' h
        obtain ⟨b2, o2, e2, h2⟩ := hat' w' h
        injection e1 with e1
        injection e1 with e3 e4 _
        injection e2 with e2
        injection e2 with e5 e6 _
        subst e3 e4 e5 e6
        exact ⟨h1, h2⟩
      have HKEEP := Lib.hid hkeep
      have HVU := Lib.hid hvu
      have HVOK := Lib.hid hvok
      have HUOK := Lib.hid huok
      have HBW := Lib.hid hbw
      have hkl : (k : Int) < (n : Int) := by omega
      clear hat hat' hkeep hvu hvok huok hv hu hbw
      go_wp2_with fail
      go_region_held3 (fun w' => (w'.cell? ⟨ba, offa + k * 5, none⟩ = some (.int .i64 kd') ∧ w'.cell? ⟨ba, offa + k * 5 + 1, none⟩ = some (.int .i64 n1) ∧ w'.cell? ⟨ba, offa + k * 5 + 2, none⟩ = some (.float .f64 x1) ∧
          w'.cell? ⟨ba, offa + k * 5 + 3, none⟩ = some (.slice s1.a s1.len s1.cap) ∧ w'.cell? ⟨ba, offa + k * 5 + 4, none⟩ = some (.bool o1)) ∧
          (w'.cell? ⟨bb, offb + k * 5, none⟩ = some (.int .i64 kd') ∧ w'.cell? ⟨bb, offb + k * 5 + 1, none⟩ = some (.int .i64 n2) ∧ w'.cell? ⟨bb, offb + k * 5 + 2, none⟩ = some (.float .f64 x2) ∧
          w'.cell? ⟨bb, offb + k * 5 + 3, none⟩ = some (.slice s2.a s2.len s2.cap) ∧ w'.cell? ⟨bb, offb + k * 5 + 4, none⟩ = some (.bool o2)))
        (first | (refine HKEEP.out _ ?_; repeat (first | exact Below.refl _ _ | refine Below.drew ?_ | refine Below.setCell ?_ (by simp) _ | refine Below.alloc ?_ (by simp) _)))
        (first | fail)
      all_goals
        first
          | (have hp := two_first wr #[.int .i64 kd', .int .i64 n1, .float .f64 x1, .slice s1.a s1.len s1.cap, .bool o1] #[.int .i64 kd', .int .i64 n2, .float .f64 x2, .slice s2.a s2.len s2.cap, .bool o2] 81 81
             have hq := two_second wr #[.int .i64 kd', .int .i64 n1, .float .f64 x1, .slice s1.a s1.len s1.cap, .bool o1] #[.int .i64 kd', .int .i64 n2, .float .f64 x2, .slice s2.a s2.len s2.cap, .bool o2] 81 81
             have hbX := ((HBW.out.alloc hsz (.cells #[.int .i64 kd', .int .i64 n1, .float .f64 x1, .slice s1.a s1.len s1.cap, .bool o1] 81)).alloc (by rw [World.size_alloc]; omega) (.cells #[.int .i64 kd', .int .i64 n2, .float .f64 x2, .slice s2.a s2.len s2.cap, .bool o2] 81)).drew
             obtain ⟨X, hX⟩ : ∃ X, X = ((wr.alloc (.cells #[.int .i64 kd', .int .i64 n1, .float .f64 x1, .slice s1.a s1.len s1.cap, .bool o1] 81)).alloc (.cells #[.int .i64 kd', .int .i64 n2, .float .f64 x2, .slice s2.a s2.len s2.cap, .bool o2] 81)).drew := ⟨_, rfl⟩
             rw [← hX] at hp hq hbX ⊢
             clear hX)
          | (have hp := two_second wr #[.int .i64 kd', .int .i64 n2, .float .f64 x2, .slice s2.a s2.len s2.cap, .bool o2] #[.int .i64 kd', .int .i64 n1, .float .f64 x1, .slice s1.a s1.len s1.cap, .bool o1] 81 81
             have hq := two_first wr #[.int .i64 kd', .int .i64 n2, .float .f64 x2, .slice s2.a s2.len s2.cap, .bool o2] #[.int .i64 kd', .int .i64 n1, .float .f64 x1, .slice s1.a s1.len s1.cap, .bool o1] 81 81
             have hbX := ((HBW.out.alloc hsz (.cells #[.int .i64 kd', .int .i64 n2, .float .f64 x2, .slice s2.a s2.len s2.cap, .bool o2] 81)).alloc (by rw [World.size_alloc]; omega) (.cells #[.int .i64 kd', .int .i64 n1, .float .f64 x1, .slice s1.a s1.len s1.cap, .bool o1] 81)).drew
             obtain ⟨X, hX⟩ : ∃ X, X = ((wr.alloc (.cells #[.int .i64 kd', .int .i64 n2, .float .f64 x2, .slice s2.a s2.len s2.cap, .bool o2] 81)).alloc (.cells #[.int .i64 kd', .int .i64 n1, .float .f64 x1, .slice s1.a s1.len s1.cap, .bool o1] 81)).drew := ⟨_, rfl⟩
             rw [← hX] at hp hq hbX ⊢
             clear hX)
        obtain ⟨a0, a1, a2, a3, a4, _⟩ := five_cells hp
        obtain ⟨b0, b1, b2, b3, b4, _⟩ := five_cells hq
        have HBX := Lib.hid hbX
        have hkd := HVU.out.k
        simp only at hkd
        have hk4 : kd' = 1 ∨ kd' = 2 ∨ kd' = 3 ∨ kd' = 4 := by omega
        clear hbX hp hq hkd
        rcases hk4 with rfl | rfl | rfl | rfl
        · obtain rfl : n2 = n1 := HVU.out.n rfl
          go_wp2_with fail
          go_roundw
          case rel => exact ⟨k + 1, by omega, by go_num, HBX.out⟩
          case measure => simp [intOf]; omega
        · have hs1 : same1 x1 x2 = true := decide_eq_true (HVU.out.x rfl)
          have HS1 := Lib.hid hs1
          clear hs1
          go_wp2_with fail
          refine (refSame1_any x1 x2 _ HVOK.out.2.1 HUOK.out.2.1).mono ?_
          rintro e w2 ⟨rfl, rfl⟩
          rw [HS1.out]
          go_wp2_with fail
          go_roundw
          case rel => exact ⟨k + 1, by omega, by go_num, HBX.out⟩
          case measure => simp [intOf]; omega
        · have hs3 : s2.bs = s1.bs := HVU.out.b rfl
          have hro := HVOK.out.1.1
          have hro' := HUOK.out.1.1
          have hl1 := HVOK.out.1.2
          have hl2 := HUOK.out.1.2
          simp only at hro hro' hl1 hl2
          rw [hs3] at hro'
          have HRO := Lib.hid hro
          have HRO' := Lib.hid hro'
          have HL1 := Lib.hid hl1
          have HL2 := Lib.hid hl2
          clear hs3 hro hro' hl1 hl2
          go_wp2_with fail
          refine (same_any s1.a s2.a s1.len s2.len s1.cap s2.cap s1.bs s1.bs _ (HRO.out.below HBX.out) (HRO'.out.below HBX.out) (by have := HL1.out; omega) (by have := HL2.out; omega)).mono ?_
          rintro e w2 ⟨rfl, q, rfl⟩
          rw [decide_eq_true rfl]
          go_wp2_with fail
          go_roundw
          case rel => exact ⟨k + 1, by omega, by go_num, below_drewN HBX.out q⟩
          case measure => simp [intOf]; omega
        · obtain rfl : o2 = o1 := HVU.out.on rfl
          go_wp2_with fail
          go_roundw
          case rel => exact ⟨k + 1, by omega, by go_num, HBX.out⟩
          case measure => simp [intOf]; omega
    · have hke : k = n := by omega
      subst hke
      go_wp2_with fail
      go_ret
      exact ⟨rfl, hbw⟩
end Go.Proofs.Ytdpajcamgipgkaa
