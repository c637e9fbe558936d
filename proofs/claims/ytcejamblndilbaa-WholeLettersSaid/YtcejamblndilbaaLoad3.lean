/- conf.Load. -/
import Derived.Test.YtcejamblndilbaaLoad2
namespace Go.Proofs.Ytcejamblndilbaa
open Go.RowKit

/-- the configuration of bytes -/
def loadOf (bs : List UInt8) : Option (List Int × List Int) := match readConf bs with
  | some (c, []) => some c
  | _ => none
def LoadPost (w : World) (bs : List UInt8) (e : Ending) (w' : World) : Prop :=
  ∃ v, e = .returned (.tuple #[v, .int .i64 (if loadOf bs = none then 30 else 0)]) ∧ RetConf w ((loadOf bs).getD ([], [])) (.returned v) w'
theorem enters_load1 (args : Array Value) (w : World) : (callFunc 103 args).run Try.prog w = .ok (.enter 103 args) w := enters Try.func103 (by kernel_rfl) rfl args w

def loadBox (w : World) : World := (w.alloc (.cells #[.slice none 0 0, .slice none 0 0] 26)).alloc (.cells #[.slice none 0 0, .slice none 0 0] 26)

/-- what Read comes to -/
def LdRead (w : World) (bs : List UInt8) (e : Ending) (w' : World) : Prop :=
  ∃ c : Cf, e = .returned (.int .i64 (if loadOf bs = none then 30 else 0)) ∧ (loadOf bs ≠ none → c.says = (loadOf bs).getD ([], []) ∧ w'.heap[w.heap.size + 1]? = some (.cells #[.slice c.v.a c.v.len c.v.cap, .slice c.l.a c.l.len c.l.cap] 26 (0, 0)) ∧ OwnZ w' (w.heap.size + 1) c.v ∧ OwnZ w' (w.heap.size + 1) c.l) ∧
    w'.heap[w.heap.size]? = some (.cells #[.slice none 0 0, .slice none 0 0] 26 (0, 0)) ∧ Below w.heap.size w w'

theorem load_read (a : Option Addr) (n cap : Nat) (bs : List UInt8) (w : World) (hr : Row8 w a n bs) (hnc : n ≤ cap) (hcm : cap ≤ maxLen) (hnil : a = none → cap = 0) :
    Calls Try.prog 44 #[.slice a n cap, .func (.func 103) #[] #[.pointer (some ⟨w.heap.size + 1, 0, none⟩)]] (loadBox w) (LdRead w bs) := by
  have hXb : Below w.heap.size w (loadBox w) := below_alloc (below_alloc (Below.refl _ _) _) _
  have hXs : (loadBox w).heap.size = w.heap.size + 2 := by unfold loadBox; rw [World.size_alloc, World.size_alloc]
  have hA : (loadBox w).heap[w.heap.size]? = some (.cells #[.slice none 0 0, .slice none 0 0] 26 (0, 0)) := (heap_alloc_old _ _ (by simp)).trans (heap_alloc_new w _)
  have hC : (loadBox w).heap[w.heap.size + 1]? = some (.cells #[.slice none 0 0, .slice none 0 0] 26 (0, 0)) := alloc_new1 w _ _
  obtain ⟨X, hX⟩ : ∃ X, X = loadBox w := ⟨_, rfl⟩
  rw [← hX] at hXb hXs hA hC ⊢
  clear hX
  have hSs := readStart_size X a n cap
  have hSb := readStart_below X a n cap
  have hl := load1_any (X.heap.size + 1) (w.heap.size + 1) bs (readStart X a n cap) (Rd.start (hr.below hXb) hnc hcm hnil) ((readStart_old (by omega)).trans hC) (by omega)
  have hcode : (readStart X a n cap).heap[X.heap.size]? = some (.cells #[.int .i64 0] 30 (0, 0)) := (heap_alloc_old _ _ (by rw [World.size_alloc]; omega)).trans (heap_alloc_new X _)
  have key := read_any 103 #[.pointer (some ⟨w.heap.size + 1, 0, none⟩)] a n cap X
    (fun rest w' => ∃ v l, readConf bs = some ((v, l), rest) ∧ Touch [X.heap.size + 1, w.heap.size + 1] (readStart X a n cap) w' ∧ ∃ c : Cf, c.says = (v, l) ∧ w'.heap[w.heap.size + 1]? = some (.cells #[.slice c.v.a c.v.len c.v.cap, .slice c.l.a c.l.len c.l.cap] 26 (0, 0)) ∧ OwnZ w' (readStart X a n cap).heap.size c.v ∧ OwnZ w' (readStart X a n cap).heap.size c.l)
    (fun code w' => code = 30 ∧ readConf bs = none ∧ Touch [X.heap.size + 1, w.heap.size + 1] (readStart X a n cap) w') enters_load1 (hl.mono fun e w' hp => by
      obtain ⟨ht, hok, hno⟩ := hp
      refine ⟨(ht.block X.heap.size (by omega) (by simp; omega)).trans hcode, ?_⟩
      cases hres : readConf bs with
      | none => exact .inr ⟨30, hno hres, rfl, rfl, ht⟩
      | some p =>
        obtain ⟨⟨v, l⟩, rest⟩ := p
        obtain ⟨he, hrd, hc⟩ := hok v l rest hres
        exact .inl ⟨rest, he, hrd, v, l, rfl, ht, hc⟩)
  refine key.mono ?_
  rintro e w2 (⟨rest, w1, ⟨v, l, hres, ht, c, hs, hC1, hv, hl⟩, rfl, hz, hg⟩ | ⟨code, w1, ⟨rfl, hres, ht⟩, rfl, hg⟩)
  · have hz1 := ht.size
    have hkp : ∀ g, g < w1.heap.size → g ≠ X.heap.size → w2.heap[g]? = w1.heap[g]? := fun g hl hn => hg.block g hl (fun e => hn (by injection e))
    have hb : Below w.heap.size w w2 := by
      have h1 : Below w.heap.size w w1 := ht.below (hXb.trans (hSb.mono (by omega))) (by omega) (fun k hk => by simp at hk; omega)
      exact h1.grown hg (by omega) (fun k hk => by injection hk; omega)
    have hA2 := (hkp w.heap.size (by omega) (by omega)).trans ((ht.block w.heap.size (by omega) (by simp; omega)).trans ((readStart_old (by omega)).trans hA))
    cases rest with
    | nil =>
      have hlo : loadOf bs = some (v, l) := by rw [loadOf, hres]
      refine ⟨c, by rw [hlo]; rfl, fun _ => ⟨by rw [hlo]; exact hs, (hkp _ (by omega) (by omega)).trans hC1, ?_, ?_⟩, hA2, hb⟩
      · exact own_more (own_keep hv fun g hgg hl => hkp g hl (by have := (hv.lt g hgg).1; omega)) (by omega)
      · exact own_more (own_keep hl fun g hgg hl' => hkp g hl' (by have := (hl.lt g hgg).1; omega)) (by omega)
    | cons x r =>
      have hlo : loadOf bs = none := by rw [loadOf, hres]
      exact ⟨c, by rw [hlo]; rfl, fun h => absurd hlo h, hA2, hb⟩
  · have hz1 := ht.size
    have hkp : ∀ g, g < w1.heap.size → g ≠ X.heap.size → w2.heap[g]? = w1.heap[g]? := fun g hl hn => hg.block g hl (fun e => hn (by injection e))
    have hb : Below w.heap.size w w2 := by
      have h1 : Below w.heap.size w w1 := ht.below (hXb.trans (hSb.mono (by omega))) (by omega) (fun k hk => by simp at hk; omega)
      exact h1.grown hg (by omega) (fun k hk => by injection hk; omega)
    have hA2 := (hkp w.heap.size (by omega) (by omega)).trans ((ht.block w.heap.size (by omega) (by simp; omega)).trans ((readStart_old (by omega)).trans hA))
    have hlo : loadOf bs = none := by rw [loadOf, hres]
    exact ⟨⟨⟨none, 0, 0, []⟩, ⟨none, 0, 0, []⟩⟩, by rw [hlo]; rfl, fun h => absurd hlo h, hA2, hb⟩

set_option maxRecDepth 100000 in
set_option maxHeartbeats 3200000 in
theorem load_any (a : Option Addr) (n cap : Nat) (bs : List UInt8) (w : World) (hr : Row8 w a n bs) (hnc : n ≤ cap) (hcm : cap ≤ maxLen) (hnil : a = none → cap = 0) :
    Calls Try.prog 85 #[.slice a n cap] w (LoadPost w bs) := by
  have hl := load_read a n cap bs w hr hnc hcm hnil
  have hmf : ∀ (fn : Fn) (first cap : Array Value) (w : World), (Instr.makeFunc fn first cap).run Try.prog w = .ok (.func fn first cap) w := fun _ _ _ _ => rfl
  have HL := Lib.hid hl
  clear hl hr hnc hcm hnil
  unfold LoadPost
  obtain ⟨r, hrr⟩ : ∃ r, r = loadOf bs := ⟨_, rfl⟩
  unfold LdRead at HL
  rw [← hrr] at HL ⊢
  clear hrr
  go_enter Try.func85, Try.ntmps85
  go_wp2_with fail
  refine HL.out.mono ?_
  rintro e w2 ⟨c, rfl, hok, hA, hb⟩
  obtain ⟨z0, z1, y0, y1⟩ := two_cells hA
  have HA := Lib.hid hA
  have HB := Lib.hid hb
  clear hA hb
  cases r with
  | none =>
    clear hok
    go_wp2_with fail
    obtain ⟨e1, e2⟩ := conf_last (w := w) (B := w.heap.size) (c := ⟨⟨none, 0, 0, []⟩, ⟨none, 0, 0, []⟩⟩) (says := ([], [])) rfl (World.ownsRow_nil _ _ _ _) (World.ownsRow_nil _ _ _ _) (Nat.le_refl _) HB.out HA.out
    exact bodyPost_ret (results_cell_tmp Try.results85 rfl (load_conf e1)) rfl ⟨_, rfl, e2⟩
  | some p =>
    obtain ⟨hs, hC, hv, hl⟩ := hok (by simp)
    obtain ⟨x0, x1, _, _⟩ := two_cells hC
    have HS := Lib.hid hs
    have HV := Lib.hid hv
    have HLL := Lib.hid hl
    clear hok hs hC hv hl
    go_wp2_with fail
    obtain ⟨e1, e2⟩ := conf_last (w := w) (B := w.heap.size) (c := c) HS.out HV.out HLL.out (Nat.le_refl _) HB.out HA.out
    exact bodyPost_ret (results_cell_tmp Try.results85 rfl (load_conf e1)) rfl ⟨_, rfl, e2⟩
end Go.Proofs.Ytcejamblndilbaa
