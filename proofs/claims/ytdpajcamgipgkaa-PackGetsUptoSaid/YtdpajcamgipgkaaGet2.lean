/- Get's loop: values read one by one. -/
import Derived.Test.YtdpajcamgipgkaaValue
import Derived.Test.YtdpajcamgipgkaaKinds
import Derived.Test.YtdpajcamgipgkaaOf
import Derived.Deep.RegionLaw
import Derived.RegionDies
namespace Go.Proofs.Ytdpajcamgipgkaa
open Go.RowKit

/-! ### Rows of a call's own -/
theorem own_keep {w w' : World} {base : Nat} {e : TypeId} {size : Nat} {v : Value} {n : Nat} {xs : List Value} (h : w.ownsRow base e size v n xs) (hk : ∀ g, v.ownBlock = some g → g < w.heap.size → w'.heap[g]? = w.heap[g]?) : w'.ownsRow base e size v n xs := by
  refine ⟨h.1, ?_⟩
  rcases h.2 with hv | ⟨g, cp, cur, rfl, hbg, hg, r⟩
  · exact .inl hv
  · exact .inr ⟨g, cp, cur, rfl, hbg, (hk g rfl (Array.getElem?_eq_some_iff.1 hg).1).trans hg, r⟩
theorem own_apart {w : World} {b b' : Nat} {e e' : TypeId} {s s' : Nat} {v v' : Value} {n n' : Nat} {xs xs' : List Value} (h : w.ownsRow b e s v n xs) (h' : w.ownsRow b' e' s' v' n' xs') (he : e ≠ e') : ∀ g, v.ownBlock = some g → v'.ownBlock ≠ some g := by
  intro g h1 h2
  rcases h.2 with ⟨rfl, _⟩ | ⟨g1, cp, cur, rfl, _, hg, _⟩
  · cases h1
  rcases h'.2 with ⟨rfl, _⟩ | ⟨g2, cp', cur', rfl, _, hg', _⟩
  · cases h2
  injection h1 with h1
  injection h2 with h2
  simp only at h1 h2
  subst h1 h2
  rw [hg] at hg'
  injection hg' with hg'
  injection hg' with _ hee _
  exact he hee

def Vl.pv (v : Vl) : Pv := ⟨v.kind, v.n, v.x, v.s.bs, v.on⟩
/-- these values, in memory of the call's own -/
structure OwnVals (w : World) (base : Nat) (vs : List Vl) (ao : Option Addr) (n cap : Nat) : Prop where
  len : vs.length = n
  row : w.ownsRow base 63 5 (.slice ao n cap) n (vs.flatMap Vl.cells)
  own : ∀ v ∈ vs, Own8 w base v.s.a v.s.len v.s.cap v.s.bs
theorem OwnVals.nil (w : World) (base : Nat) : OwnVals w base [] none 0 0 := ⟨rfl, World.ownsRow_nil w base _ 5, fun v h => by cases h⟩
theorem OwnVals.keep {w w' : World} {base : Nat} {vs : List Vl} {ao : Option Addr} {n cap : Nat} (h : OwnVals w base vs ao n cap) (hk : ∀ g, base ≤ g → g < w.heap.size → w'.heap[g]? = w.heap[g]?) : OwnVals w' base vs ao n cap :=
  ⟨h.len, own_keep h.row fun g hg hl => hk g (h.row.lt g hg).1 hl, fun v hv => own_keep (h.own v hv) fun g hg hl => hk g ((h.own v hv).lt g hg).1 hl⟩
theorem OwnVals.touch {S : List Nat} {w w' : World} {base : Nat} {vs : List Vl} {ao : Option Addr} {n cap : Nat} (h : OwnVals w base vs ao n cap) (ht : Touch S w w') (hS : ∀ k ∈ S, k < base) : OwnVals w' base vs ao n cap :=
  h.keep fun g hb hl => ht.block g hl (fun hi => by have := hS g hi; omega)
theorem OwnVals.snoc {w w' : World} {base : Nat} {vs : List Vl} {ao ao' : Option Addr} {n cap cap' : Nat} {v : Vl} (h : OwnVals w base vs ao n cap) (hv : Own8 w base v.s.a v.s.len v.s.cap v.s.bs)
    (hrow : w'.ownsRow base 63 5 (.slice ao' (n + 1) cap') (n + 1) (vs.flatMap Vl.cells ++ v.cells)) (hg : w.grownBy w' (Value.ownBlock (.slice ao n cap))) : OwnVals w' base (vs ++ [v]) ao' (n + 1) cap' := by
  have k : ∀ u : Vl, Own8 w base u.s.a u.s.len u.s.cap u.s.bs → Own8 w' base u.s.a u.s.len u.s.cap u.s.bs := fun u hu => own_keep hu fun g hb hl => hg.block g hl fun e => own_apart hu h.row (by decide) g hb e.symm
  refine ⟨by rw [List.length_append, h.len]; rfl, ?_, fun u hu => ?_⟩
  · rw [List.flatMap_append]
    simpa using hrow
  · rcases List.mem_append.1 hu with hu | hu
    · exact k u (h.own u hu)
    · rw [List.mem_singleton] at hu
      subst hu
      exact k u hv

theorem Touch.grown {S : List Nat} {w w1 w2 : World} {row : Option Nat} (h : Touch S w w1) (hg : w1.grownBy w2 row) (hr : ∀ g, row = some g → w.heap.size ≤ g) : Touch S w w2 :=
  ⟨hg.os.trans h.os, hg.tape.trans h.tape, hg.output.trans h.output, Nat.le_trans h.size hg.size, fun k hk hn => (hg.block k (Nat.lt_of_lt_of_le hk h.size) (fun e => by have := hr k e.symm; omega)).trans (h.block k hk hn)⟩
/-- .. where only blocks above the reader's own, and one that holds no bytes, have turned -/
theorem Rd.high {w w' : World} {R : Nat} {bs : List UInt8} (h : Rd w R bs) (hk : ∀ k, k ≤ R → k < w.heap.size → w'.heap[k]? = w.heap[k]?) : Rd w' R bs := by
  obtain ⟨a, n, c, hR', hrow, h1, h2, h3, h4⟩ := h
  refine ⟨a, n, c, (hk R (Nat.le_refl _) (lt_of_block hR')).trans hR', ⟨hrow.1, fun i hi => ?_⟩, h1, h2, h3, h4⟩
  obtain ⟨b, off, ha, hc⟩ := hrow.2 i hi
  refine ⟨b, off, ha, ?_⟩
  rw [World.cell?_of_block (hk b (Nat.le_of_lt (h4 b off ha (by omega))) (World.block_lt_of_cell? w _ hc))]
  exact hc

theorem RowN.touch {S : List Nat} {w w' : World} {a : Option Addr} {size n : Nat} {vs : List Value} (h : RowN w a size n vs) (ht : Touch S w w') (hd : ∀ b off, a = some ⟨b, off, none⟩ → 0 < n * size → b ∉ S) : RowN w' a size n vs := by
  refine ⟨h.1, fun hn => ?_⟩
  obtain ⟨b, off, rfl, hc⟩ := h.2 hn
  refine ⟨b, off, rfl, fun j u hu => ?_⟩
  have h1 := hc j u hu
  have hj : j < n * size := by rw [← h.1]; exact (List.getElem?_eq_some_iff.1 hu).1
  rw [World.cell?_of_block (ht.block b (World.block_lt_of_cell? w _ h1) (hd b off rfl (by omega)))]
  exact h1

/-- 'append(out, x)' of a slice of values as one step of a region that draws -/
theorem step_appendVal {w : World} {ops : Array Oper} {o : Oper} {a : Act} {K : Act → World → Prop} {Q : Exit → Act → World → Prop} {E : Prop} (hgd : o.guard = none) (s x : Operand)
    (ho : o.op = .call { callee := .builtin .append, args := #[s, x], argTypes := #[48, 48] })
    (base : Nat) (ao : Option Addr) (n cap : Nat) (vs : List Value) (hs : a.eval s = .slice ao n cap) (hown : w.ownsRow base 63 5 (.slice ao n cap) n vs)
    (ax : Option Addr) (m c : Nat) (xs : List Value) (hx : a.eval x = .slice ax m c) (hrow : RowN w ax 5 m xs) (hnil : ax = none → c = 0) (h1 : ∀ u ∈ xs, u.oneCell' = true) (hbig : n + m ≤ 1000000000000) (hbase : base ≤ w.heap.size) (N : Nat) (hN : n + m = N)
    (h : ∀ ao' cap' w', w'.ownsRow base 63 5 (.slice ao' N cap') N (vs ++ xs) → w.grownBy w' (Value.ownBlock (.slice ao n cap)) →
      (Value.ownBlock (.slice ao' N cap') = Value.ownBlock (.slice ao n cap) ∨ Value.ownBlock (.slice ao' N cap') = some w.heap.size) → K (a.put o.dst (.slice ao' N cap')) w') :
    if Region.wanted o (yielded ops a.tmps) = true then Oper.wp Try.prog o a w K Q else E := by
  subst hN
  have hw : Region.wanted o (yielded ops a.tmps) = true := by simp [Region.wanted, hgd]
  rw [if_pos hw]
  obtain ⟨i0, hi, hz0, hz1, hz2⟩ := info_parts info_val
  obtain ⟨ao', cap', w', hr, h2, h3, h4⟩ := run_append_row (P := Try.prog) w base 48 o.type 63 i0 _ 5 56 Try.underlying48 hi hz0 hz1 hz2 rfl (by decide) ao n cap vs hown ax m c xs hrow.1 hrow.news hnil h1 (by simp only [maxLen]; omega) (by omega) hbase
  unfold Oper.wp execOp
  simp only [ho, resolve, invoke, builtin, Sem.run_bind, Sem.run_pure, Result.andThen_ok, List.map_toArray, List.map_cons, List.map_nil, hs, hx, hr]
  exact h ao' cap' w' h2 h3 h4

/-! ### One value, the one way or the other -/
theorem value_some (R : Nat) (kind : Int) (bs : List UInt8) (p : Pv) (r : List UInt8) (w : World) (hr : Rd w R bs) (h1 : 1 ≤ kind ∧ kind ≤ 4) (hv : getVal kind bs = some (p, r)) :
    Calls Try.prog 62 #[.pointer (some ⟨R, 0, none⟩), .int .i64 kind] w fun e w' =>
      ∃ a n c, e = .returned (.agg #[.int .i64 p.kind, .int .i64 p.n, .float .f64 p.x, .slice a n c, .bool p.on]) ∧ Own8 w' w.heap.size a n c p.bs ∧ Rd w' R r ∧ w.grownBy w' (some R) :=
  (value_any R kind bs w hr h1.1 h1.2).mono fun e w' h => by
    obtain ⟨v, he, ⟨s, rfl, hown⟩, hrd, hg⟩ := h.ok hv
    exact ⟨s.a, s.len, s.cap, he, hown, hrd, hg⟩
theorem value_none (R : Nat) (kind : Int) (bs : List UInt8) (w : World) (hr : Rd w R bs) (h1 : 1 ≤ kind ∧ kind ≤ 4) (hv : getVal kind bs = none) :
    Calls Try.prog 62 #[.pointer (some ⟨R, 0, none⟩), .int .i64 kind] w fun e w' => e = Wrong 30 ∧ w.grownBy w' (some R) :=
  (value_any R kind bs w hr h1.1 h1.2).mono fun _ _ h => h.no hv

def getAcc : List Int → List UInt8 → List Pv → Option (List Pv × List UInt8)
  | [], bs, acc => some (acc, bs)
  | k :: ks, bs, acc => match getVal k bs with
    | none => none
    | some (p, r) => getAcc ks r (acc ++ [p])

/-- what the loop of a Get leaves -/
def GetPost (w : World) (R K : Nat) (res : Option (List Pv × List UInt8)) (e : Ending) (w' : World) : Prop :=
  Touch [R, K] w w' ∧ (∀ ps r, res = some (ps, r) → e = .returned (.tuple #[]) ∧ Rd w' R r ∧ ∃ vs ao n cap, vs.map Vl.pv = ps ∧ w'.heap[K]? = some (.cells #[.slice ao n cap] 48 (0, 0)) ∧ OwnVals w' w.heap.size vs ao n cap) ∧ (res = none → e = Wrong 30)
theorem GetPost.mk_no {w : World} {R K : Nat} {res : Option (List Pv × List UInt8)} {e : Ending} {w' : World} (ht : Touch [R, K] w w') (he : e = Wrong 30) (hr : res = none) : GetPost w R K res e w' :=
  ⟨ht, (fun _ _ h => by rw [hr] at h; cases h), fun _ => he⟩
theorem GetPost.mk_ok {w : World} {R K : Nat} {res : Option (List Pv × List UInt8)} {r : List UInt8} {e : Ending} {w' : World} {vs : List Vl} {ao : Option Addr} {n cap : Nat} (ht : Touch [R, K] w w') (he : e = .returned (.tuple #[])) (hr : res = some (vs.map Vl.pv, r)) (hrd : Rd w' R r)
    (hK : w'.heap[K]? = some (.cells #[.slice ao n cap] 48 (0, 0))) (hO : OwnVals w' w.heap.size vs ao n cap) : GetPost w R K res e w' :=
  ⟨ht, (fun ps r' h => by rw [hr] at h; injection h with h; injection h with h1 h2; subst h1 h2; exact ⟨he, hrd, vs, ao, n, cap, rfl, hK, hO⟩), fun h => by rw [hr] at h; cases h⟩

set_option maxRecDepth 100000 in
set_option maxHeartbeats 3200000 in
theorem get2_any (R Z K : Nat) (az : Option Addr) (nz cz : Nat) (zs : List Int) (bs : List UInt8) (w : World) (hr : Rd w R bs) (hZ : w.heap[Z]? = some (.cells #[.slice az nz cz] 55 (0, 0))) (hK : w.heap[K]? = some (.cells #[.slice none 0 0] 48 (0, 0)))
    (hrow : RowN w az 1 nz (cellsI zs)) (hap : ∀ b off, az = some ⟨b, off, none⟩ → 0 < nz → b ≠ R ∧ b ≠ K) (hRK : R ≠ K) (hnz : nz ≤ 1000000000) (hgood : ∀ z ∈ zs, 1 ≤ z ∧ z ≤ 4) :
    Calls Try.prog 61 #[.pointer (some ⟨R, 0, none⟩), .pointer (some ⟨Z, 0, none⟩), .pointer (some ⟨K, 0, none⟩)] w (GetPost w R K (getAcc zs bs [])) := by
  have hRl : R < w.heap.size := by obtain ⟨_, _, _, h, _⟩ := hr; exact lt_of_block h
  have hKl : K < w.heap.size := lt_of_block hK
  have hzc := cell_of_one hZ
  have hl : zs.length = nz := by have := hrow.1; rw [cellsI_len] at this; omega
  have HL := Lib.hid hl
  have HR := Lib.hid hr
  have HK := Lib.hid hK
  have HROW := Lib.hid hrow
  have HAP := Lib.hid hap
  have HG := Lib.hid hgood
  clear hZ hr hK hrow hap hgood hl
  go_enter Try.func61, Try.ntmps61
  go_wp2_with fail
  go_loopw [8] (fun i wr => ∃ (k : Nat) (rest : List UInt8) (vs : List Vl) (ao : Option Addr) (cap : Nat), i = .int .i64 k ∧ k ≤ nz ∧ Hid (getAcc (zs.drop k) rest (vs.map Vl.pv) = getAcc zs bs []) ∧ Touch [R, K] w wr ∧ Rd wr R rest ∧ Hid (wr.heap[K]? = some (.cells #[.slice ao k cap] 48 (0, 0))) ∧ OwnVals wr w.heap.size vs ao k cap) (fun i _ => nz - (intOf i).toNat)
  case atStart => exact ⟨0, bs, [], none, 0, rfl, by omega, rfl, Touch.refl _ _, HR.out, HK.out, OwnVals.nil _ _⟩
  case round =>
    obtain ⟨k, rest, vs, ao, cap, rfl, hk, HA, ht, hrd, hKr, hO⟩ := hrel
    have hzw := ht.size
    have hcK := cell_of_one hKr.out
    have hfK := free_of_one hKr.out
    have HT := Lib.hid ht
    have HRD := Lib.hid hrd
    have HO := Lib.hid hO
    by_cases hlt : k < nz
    · have hrz := HROW.out.touch ht (fun b off ha hn hS => by
        have := HAP.out b off ha (by omega)
        simp at hS
        omega)
      obtain ⟨b, off, z, rfl, hz, hcz⟩ := cellI_at hrz k hlt
      have hzg := HG.out z (List.mem_of_getElem? hz)
      have hd : zs.drop k = z :: zs.drop (k + 1) := by
        obtain ⟨hlz, rfl⟩ := List.getElem?_eq_some_iff.1 hz
        exact List.drop_eq_getElem_cons hlz
      have HD := Lib.hid hd
      have HZG := Lib.hid hzg
      have hkl : (k : Int) < (nz : Int) := by omega
      clear hd hzg hz hrz ht hrd hO
      go_wp2_with fail
      cases hv : getVal z rest with
      | none =>
        have he : getAcc zs bs [] = none := by rw [← HA.out, HD.out, getAcc, hv]
        have HE := Lib.hid he
        have HV := Lib.hid hv
        clear he hv
        go_region_dies
        all_goals
          refine (value_none R z rest _ (by exact HRD.out) HZG.out HV.out).mono ?_
          rintro e w2 ⟨rfl, hg2⟩
          simp only [Wrong]
          go_wp2
          refine ⟨rfl, ?_⟩
          exact GetPost.mk_no (HT.out.trans (Touch.of_grown (grown_undrew hg2) (by simp))) rfl HE.out
      | some q =>
        obtain ⟨p, r⟩ := q
        have he : getAcc (zs.drop (k + 1)) r (vs.map Vl.pv ++ [p]) = getAcc zs bs [] := by rw [← HA.out, HD.out, getAcc, hv]
        have HE := Lib.hid he
        have HV := Lib.hid hv
        clear he hv
        have hwk : ∀ w2, wr.drew.grownBy w2 (some R) → w2.heap[K]? = some (.cells #[.slice ao k cap] 48 (0, 0)) := fun w2 hg =>
          (hg.block K (Nat.lt_of_lt_of_le hKl hzw) (fun e => hRK (by injection e with e; exact e.symm))).trans hKr.out
        have hwo : ∀ w2 o, wr.drew.grownBy w2 (some R) → OwnVals (w2.alloc o) w.heap.size vs ao k cap := fun w2 o hg =>
          HO.out.touch ((Touch.of_grown (S := [R]) (grown_undrew hg) (by simp)).trans (Touch.alloc _ _ _)) (fun j hj => by rw [List.mem_singleton] at hj; omega)
        have HWK := Lib.hid hwk
        have HWO := Lib.hid hwo
        clear hwk hwo
        go_region_law (first
          | (go_simp; go_at_call 62; refine (value_some R z rest p r _ (by exact HRD.out) HZG.out HV.out).mono ?_; rintro e w2 ⟨aq, nq, cq, rfl, hown2, hrd2, hg2⟩
             have hc2 := cell_of_one (HWK.out _ hg2); have hd2 : ∀ o, (w2.alloc o).cell? ⟨K, 0, none⟩ = some (.slice ao k cap) := fun o => cell_of_one ((heap_alloc_old w2 o (lt_of_block (HWK.out _ hg2))).trans (HWK.out _ hg2)))
          | (refine step_appendVal rfl (.tmp 12) (.tmp 16) rfl w.heap.size ao k cap (vs.flatMap Vl.cells) rfl (HWO.out _ _ hg2).row (some ⟨w2.heap.size, 0, none⟩) 1 1 (Vl.cells ⟨p.kind, p.n, p.x, ⟨aq, nq, cq, p.bs⟩, p.on⟩) rfl (RowN.of_block (heap_alloc_new _ _) rfl rfl) (fun h => by cases h) (cells_one5 _) (by omega) (by rw [World.size_alloc]; have := hg2.size; have e : w.heap.size ≤ wr.drew.heap.size := hzw; omega) (k + 1) rfl ?_
             intro ao3 cap3 w3 hown3 hg3 hat3
             have h3 := (hg3.block K (by rw [World.size_alloc]; have := lt_of_block (HWK.out _ hg2); omega) (fun e => by have := (HO.out.row.lt K e.symm).1; omega)).trans ((heap_alloc_old w2 _ (lt_of_block (HWK.out _ hg2))).trans (HWK.out _ hg2))
             have hc3 := cell_of_one h3; have hf3 := free_of_one h3; have H3 := Lib.hid h3; clear h3))
        all_goals
          go_wp2_with fail
          go_roundw
          case rel =>
            have hRl3 : R < w2.heap.size := by have := hg2.size; have e : w.heap.size ≤ wr.drew.heap.size := hzw; omega
            refine ⟨k + 1, r, vs ++ [⟨p.kind, p.n, p.x, ⟨aq, nq, cq, p.bs⟩, p.on⟩], ao3, cap3, by go_num, by omega, ?_, ?_, ?_, one_setCell H3.out, ?_⟩
            · show _ = _
              rw [List.map_append]
              exact HE.out
            · exact (((HT.out.trans (Touch.of_grown (grown_undrew hg2) (by simp))).trans (Touch.alloc _ _ _)).grown hg3 (fun g hg => (HO.out.row.lt g hg).1)).trans (Touch.set _ _ _ _ (by simp))
            · refine Rd.setOther (Rd.high (hrd2.below ((Below.refl _ _).alloc (Nat.le_refl _) _)) fun j hj hjl => hg3.block j hjl (fun e => ?_)) H3.out (fun _ h => by cases h) (fun e => hRK e.symm)
              have := (HO.out.row.lt j e.symm).1
              omega
            · exact ((HWO.out _ _ hg2).snoc (Own8.more (hown2.below (B := w2.heap.size) ((Below.refl _ _).alloc (Nat.le_refl _) _) (Nat.le_refl _)) (by exact hzw)) hown3 hg3).keep fun g hb hl => Below.heap_setCell w3 _ _ g (by simp; omega)
          case measure => simp [intOf]; omega
    · have hke : k = nz := by omega
      subst hke
      have hd : zs.drop k = [] := List.drop_of_length_le (by rw [HL.out]; exact Nat.le_refl _)
      have he : getAcc zs bs [] = some (vs.map Vl.pv, rest) := by rw [← HA.out, hd, getAcc]
      have HE := Lib.hid he
      clear he hd ht hrd hO
      go_wp2_with fail
      go_end0
      exact GetPost.mk_ok HT.out rfl HE.out HRD.out hKr.out HO.out
end Go.Proofs.Ytdpajcamgipgkaa
