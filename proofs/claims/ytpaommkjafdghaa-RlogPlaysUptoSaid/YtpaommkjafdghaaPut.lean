/- The law's put. -/
import Derived.Test.YtpaommkjafdghaaApart
namespace Go.Proofs.Ytpaommkjafdghaa
open Go.RowKit

/-- an index of 0 is the one that follows -/
def putIx (last ix : Int) : Int := if ix = 0 then wrap64 (last + 1) else ix
def putOf : Int → List En → List En
  | _, [] => []
  | last, e :: r => ⟨putIx last e.ix, e.tm, e.kd, e.s⟩ :: putOf (putIx last e.ix) r
theorem putOf_len : ∀ (us : List En) (last : Int), (putOf last us).length = us.length
  | [], _ => rfl
  | e :: r, last => by rw [putOf, List.length_cons, List.length_cons, putOf_len r]
theorem putOf_s : ∀ (us : List En) (last : Int) (v : En), v ∈ putOf last us → ∃ u ∈ us, v.s = u.s
  | [], _, v, h => by cases h
  | e :: r, last, v, h => by
    rw [putOf] at h
    rcases List.mem_cons.1 h with rfl | h
    · exact ⟨e, List.mem_cons_self .., rfl⟩
    · obtain ⟨u, hu, hs⟩ := putOf_s r _ v h
      exact ⟨u, List.mem_cons_of_mem _ hu, hs⟩
/-- It returns a row of these entries, in memory of its own. -/
def RetRow (w : World) (us : List En) (e : Ending) (w' : World) : Prop :=
  ∃ ao cap, e = .returned (.slice ao us.length cap) ∧ w'.ownsRow w.heap.size 32 4 (.slice ao us.length cap) us.length (us.flatMap En.cells) ∧ Below w.heap.size w w'

set_option maxRecDepth 100000 in
set_option maxHeartbeats 6400000 in
theorem put_any (a : Option Addr) (n cap : Nat) (us : List En) (last : Int) (w : World) (hr : RowN w a 4 n (us.flatMap En.cells)) (hul : us.length = n) (hn : n ≤ 1000000000) :
    Calls Try.prog 23 #[.slice a n cap, .int .i64 last] w (RetRow w (putOf last us)) := by
  have HR := Lib.hid hr
  have HUL := Lib.hid hul
  have HPL := Lib.hid ((putOf_len us last).trans hul)
  unfold RetRow
  rw [HPL.out]
  obtain ⟨ps, hps⟩ : ∃ ps, ps = putOf last us := ⟨_, rfl⟩
  rw [← hps]
  have HPS := Lib.hid hps
  have h0 := World.ownsRow_lit (base := w.heap.size) (e := 32) (size := 4) w #[] 0 (by omega) (by omega) rfl
  have H0 := Lib.hid h0
  clear hr hul hps h0
  go_enter Try.func23, Try.ntmps23
  go_wp2_with fail
  go_loopw [1, 5, 11] (fun vl vo i wr => ∃ (k : Nat) (li : Int) (vs : List En) (ao : Option Addr) (cp : Nat), i = .int .i64 k ∧ vl = .int .i64 li ∧ vo = .slice ao k cp ∧ k ≤ n ∧ Hid (ps = vs ++ putOf li (us.drop k)) ∧ Hid (wr.ownsRow w.heap.size 32 4 (.slice ao k cp) k (vs.flatMap En.cells)) ∧ Hid (Below w.heap.size w wr)) (fun _ _ i _ => n - (intOf i).toNat)
  case atStart => exact ⟨0, last, [], some ⟨w.heap.size, 0, none⟩, 0, rfl, rfl, rfl, by omega, HPS.out, H0.out, below_alloc (Below.refl _ _) _⟩
  case round =>
    obtain ⟨k, li, vs, ao, cp, rfl, rfl, rfl, hk, HV, HO, HB⟩ := hrel
    by_cases hlt : k < n
    · obtain ⟨u, huk⟩ : ∃ u, us[k]? = some u := ⟨_, List.getElem?_eq_getElem (by rw [HUL.out]; omega)⟩
      obtain ⟨b, off, rfl, e0, e1, e2, e3⟩ := en_at (HR.out.below HB.out) HUL.out k hlt u huk
      have hkl : (k : Int) < (n : Int) := by omega
      have hHV : ps = (vs ++ [⟨putIx li u.ix, u.tm, u.kd, u.s⟩]) ++ putOf (putIx li u.ix) (us.drop (k + 1)) := by
        have := HV.out
        rw [drop_en huk, putOf] at this
        rw [this, List.append_assoc]
        rfl
      have hzw := HB.out.size
      have HV2 := Lib.hid hHV
      clear huk hHV HV
      by_cases hz : u.ix = 0
      · have hpi : putIx li u.ix = wrap64 (li + 1) := by rw [putIx, if_pos hz]
        rw [hpi] at HV2
        obtain ⟨ww, hww⟩ : ∃ x, x = wrap64 (li + 1) := ⟨_, rfl⟩
        rw [← hww] at HV2
        clear hpi
        rw [hz] at e0
        clear hz
        go_wp2_with (at_builtin; rw [← hww]; refine wpList_appendE rfl (.tmp 23) (.tmp 25) rfl w.heap.size ao k cp (vs.flatMap En.cells) rfl (own_keep HO.out fun g _ hl => alloc_far (alloc_far rfl hl) (by rw [World.size_alloc]; omega)) (some ⟨wr.heap.size + 1, 0, none⟩) 1 1 (En.cells ⟨ww, u.tm, u.kd, u.s⟩) rfl (RowN.newH _ _ _ 4 1 _ _ rfl rfl (by rw [World.size_alloc])) (fun h => by cases h) (cells_one4 _) (by omega) (by rw [World.size_alloc, World.size_alloc]; omega) (k + 1) rfl ?_; intro ao3 cap3 w3 hown3 hg3 hat3)
        go_roundw
        case rel =>
          refine ⟨k + 1, ww, vs ++ [(⟨ww, u.tm, u.kd, u.s⟩ : En)], ao3, cap3, by go_num, by rw [hww], rfl, by omega, HV2, ?_, (below_alloc (below_alloc HB.out _) _).grown hg3 (by rw [World.size_alloc, World.size_alloc]; omega) (fun g hg => (HO.out.lt g hg).1)⟩
          rw [List.flatMap_append]
          show World.ownsRow _ _ _ _ _ _ _
          simpa using hown3
        case measure => simp [intOf]; omega
      · have hpi : putIx li u.ix = u.ix := by rw [putIx, if_neg hz]
        rw [hpi] at HV2
        have hzz : (u.ix == 0) = false := by simp [hz]
        clear hpi hz
        go_wp2_with (at_builtin; refine wpList_appendE rfl (.tmp 23) (.tmp 25) rfl w.heap.size ao k cp (vs.flatMap En.cells) rfl (own_keep HO.out fun g _ hl => alloc_far (alloc_far rfl hl) (by rw [World.size_alloc]; omega)) (some ⟨wr.heap.size + 1, 0, none⟩) 1 1 (En.cells ⟨u.ix, u.tm, u.kd, u.s⟩) rfl (RowN.newH _ _ _ 4 1 _ _ rfl rfl (by rw [World.size_alloc])) (fun h => by cases h) (cells_one4 _) (by omega) (by rw [World.size_alloc, World.size_alloc]; omega) (k + 1) rfl ?_; intro ao3 cap3 w3 hown3 hg3 hat3)
        go_roundw
        case rel =>
          refine ⟨k + 1, u.ix, vs ++ [(⟨u.ix, u.tm, u.kd, u.s⟩ : En)], ao3, cap3, by go_num, rfl, rfl, by omega, HV2, ?_, (below_alloc (below_alloc HB.out _) _).grown hg3 (by rw [World.size_alloc, World.size_alloc]; omega) (fun g hg => (HO.out.lt g hg).1)⟩
          rw [List.flatMap_append]
          show World.ownsRow _ _ _ _ _ _ _
          simpa using hown3
        case measure => simp [intOf]; omega
    · have hke : k = n := by omega
      subst hke
      go_wp2_with fail
      go_ret
      have hv : ps = vs := by
        have := HV.out
        rw [List.drop_of_length_le (by rw [HUL.out]; omega), putOf, List.append_nil] at this
        exact this
      exact ⟨ao, cp, rfl, by rw [hv]; exact HO.out, HB.out⟩
end Go.Proofs.Ytpaommkjafdghaa
