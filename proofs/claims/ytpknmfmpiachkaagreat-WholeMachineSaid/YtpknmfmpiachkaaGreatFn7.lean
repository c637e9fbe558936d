/- Keys sorted, each once. -/
import Derived.Test.YtpknmfmpiachkaaGreatFn4
import Derived.Lib.SlicesCompact
import Derived.Lib.SliceRun
import Derived.Deep.LoopGhost
namespace Go.Proofs.YtpknmfmpiachkaaGreat
open Go.RowKit Go.Sort Go.Shelf Go.Lib
abbrev CF : Type := { x : Nat // x < 18446744073709551616 ∧ Flo.canon x = x }
instance : Inhabited CF := ⟨⟨0, by decide, by decide⟩⟩
def encF (x : CF) : Value := .float .f64 x.1
def cfF (a b : CF) : Int := Flo.cmp a.1 b.1
theorem cmpF_lt (a b : Nat) : Flo.cmp a b < 0 ↔ Flo.code a < Flo.code b := by
 unfold Flo.cmp Flo.cmpN
 repeat' split
 all_goals omega
theorem cmpF_zero (a b : Nat) : Flo.cmp a b = 0 ↔ Flo.code a = Flo.code b := by
 unfold Flo.cmp Flo.cmpN
 repeat' split
 all_goals omega
theorem ltF (a b : CF) : ltOf cfF a b = decide (Flo.code a.1 < Flo.code b.1) := by
 unfold ltOf cfF
 rw [decide_eq_decide]
 exact cmpF_lt _ _
theorem swoF : SWO (ltOf cfF) where
 irrefl x := by rw [ltF]; simp
 trans x y z h1 h2 := by rw [ltF] at *; simp only [decide_eq_true_eq] at *; omega
 ntrans x y z h1 h2 := by rw [ltF] at *; simp only [decide_eq_false_iff_not] at *; omega
theorem eqCF (x y : CF) : x = y ↔ Flo.code x.1 = Flo.code y.1 := ⟨fun h => by rw [h], fun h => Subtype.ext (Flo.code_inj _ _ x.2.1 y.2.1 h x.2.2 y.2.2)⟩
theorem totF (x y : CF) (h1 : ltOf cfF x y = false) (h2 : ltOf cfF y x = false) : x = y := by
 rw [ltF] at *
 simp only [decide_eq_false_iff_not] at *
 exact (eqCF x y).2 (by omega)
def toCF (x : Nat) : CF := if h : Flo.canon x < 18446744073709551616 then ⟨Flo.canon x, h, Flo.canon_canon x⟩ else ⟨0, by decide, by decide⟩
theorem toCF_val (x : Nat) (h : x < 18446744073709551616) : (toCF x).1 = Flo.canon x := by
 unfold toCF
 rw [dif_pos (Flo.canon_lt x h)]
def srtF (ws : List Nat) : List CF := (ws.map toCF).mergeSort fun x y => !(ltOf cfF) y x
def sortF (ws : List Nat) : List Nat := (compactUpTo (srtF ws).toArray (srtF ws).length).map Subtype.val
theorem sortF_good (ws : List Nat) : ∀ x ∈ sortF ws, x < 18446744073709551616 ∧ Flo.canon x = x := by
 intro x hx
 unfold sortF at hx
 rw [List.mem_map] at hx
 obtain ⟨y, _, rfl⟩ := hx
 exact y.2
theorem eqL_eqW (xs ys : List Nat) (h : eqL eqW xs ys = true) : xs = ys := by
 induction xs generalizing ys with
 | nil => cases ys with
   | nil => rfl
   | cons => cases h
 | cons x xs ih => cases ys with
   | nil => cases h
   | cons y ys =>
     rw [eqL, Bool.and_eq_true] at h
     rw [ih ys h.2, show x = y by simpa [eqW] using h.1]
set_option maxHeartbeats 800000 in
theorem sortFn_any (x y : CF) (w : World) : Calls Tryz.prog 132 #[.float .f64 x.1, .float .f64 y.1] w (RetEq w (.bool (decide (x = y)))) := by
 have h := cmp_any x.1 y.1 w x.2.1 y.2.1
 obtain ⟨c, hc⟩ : ∃ c, c = Flo.cmp x.1 y.1 := ⟨_, rfl⟩
 have hz : Hid ((c == 0) = decide (x = y)) := by
  show _ = _
  rw [hc, Bool.eq_iff_iff, beq_iff_eq, decide_eq_true_eq, cmpF_zero, eqCF]
 rw [← hc] at h
 have H := Lib.hid h
 clear h hc
 go_enter Tryz.func132, Tryz.ntmps132
 go_wp2_with fail
 refine H.out.mono ?_
 rintro e w' ⟨rfl, rfl⟩
 go_wp2_with fail
 go_ret
 exact ⟨by rw [← hz.out]; rfl, rfl⟩
theorem cmpLaysF (blk off size : Nat) (w : World) : CmpLays1 Tryz.prog 130 #[] encF cfF blk off size w := fun _ _ _ _ x y =>
 (cmp_any x.1 y.1 _ x.2.1 y.2.1).mono fun _ _ h => ⟨h.1, 0, #[], by rw [grow_empty]; exact h.2.symm⟩
theorem quiet_base {P : Program} {f : FuncId} {args : Array Value} {w : World} {q x : Nat} {v : Value} (h : Calls P f args (w.drewN (q + x)) fun e w' => e = .returned v ∧ w.drewN (q + x) = w') : Calls P f args (w.drewN (q + x)) fun e w'' => e = .returned v ∧ ∃ n, w'' = w.drewN (q + n) :=
 h.mono fun _ _ ⟨h1, h2⟩ => ⟨h1, x, h2.symm⟩
theorem oneF (x : CF) : (encF x).oneCell' = true := rfl
theorem zeroF (w : World) : (zeroValue 63).run Tryz.prog w = .ok (.float .f64 0) w := by kernel_rfl
set_option maxRecDepth 1000000 in
set_option maxHeartbeats 4000000 in
theorem compact_any (g cap : Nat) (d : Array CF) (w : World) (hH : Holds encF w g 0 d) (hsz : d.size ≤ 1000000000000) (hcap : d.size ≤ cap) (hcap2 : cap ≤ 9223372036854775807) :
 Calls Tryz.prog 131 #[.slice (some ⟨g, 0, none⟩) d.size cap, .func (.func 132) #[] #[]] w fun e w' => e = .returned (.slice (some ⟨g, 0, none⟩) (compactUpTo d d.size).length cap) ∧
  ∃ q, w' = putRow encF (Sort.ahead w q) g 0 (compactUpTo d d.size ++ List.replicate (d.size - (compactUpTo d d.size).length) (⟨0, by decide, by decide⟩ : CF)).toArray := by
 have same : ∀ q, (∀ j, j < d.size → keeps d j = true) → (compactUpTo d d.size).length = d.size ∧ w.drewN q = putRow encF (Sort.ahead w q) g 0 (compactUpTo d d.size ++ List.replicate (d.size - (compactUpTo d d.size).length) (⟨0, by decide, by decide⟩ : CF)).toArray := by
  intro q hall
  have e : compactUpTo d d.size = d.toList := by rw [compactUpTo_all d _ hall, range_map_get]
  rw [e]
  refine ⟨by simp, ?_⟩
  simp only [Array.length_toList, Nat.sub_self, List.replicate_zero, List.append_nil, Array.toArray_toList]
  exact (putRow_self encF (Sort.ahead w q) g 0 d (holds_ahead encF w q g 0 d hH)).symm
 have HS := Lib.hid same
 have HH := Lib.hid hH
 clear same hH
 by_cases h2 : d.size < 2
 · go_enter Tryz.func131, Tryz.ntmps131
   go_wp2_with fail
   go_ret
   obtain ⟨e1, e2⟩ := HS.out 0 (fun j hj => keeps_lt_one d j (by omega))
   exact ⟨by rw [e1]; rfl, 0, e2⟩
 · have hd2 : decide ((d.size : Int) < 2) = false := by simp; omega
   go_enter Tryz.func131, Tryz.ntmps131
   go_wp2_with fail
   go_loopw [5] (fun s5 wr => ∃ k q : Nat, 1 ≤ k ∧ k ≤ d.size ∧ s5 = .int .i64 k ∧ wr = w.drewN q ∧ Hid (∀ j, j < k → keeps d j = true)) (fun s5 _ => d.size - (intOf s5).toNat)
   case atStart => exact ⟨1, 0, Nat.le_refl _, by omega, rfl, rfl, keeps_lt_one d⟩
   case round =>
    obtain ⟨k, q, hk1, hk, rfl, rfl, HA⟩ := hrel
    by_cases hlt : k < d.size
    · obtain ⟨c1, f1⟩ := HH.out k hlt
      obtain ⟨c0, f0⟩ := HH.out (k - 1) (by omega)
      rw [Nat.zero_add] at c1 f1 c0 f0
      obtain ⟨x, hx⟩ : ∃ x, x = d[k]! := ⟨_, rfl⟩
      obtain ⟨y, hy⟩ : ∃ y, y = d[k - 1]! := ⟨_, rfl⟩
      rw [← hx] at c1
      rw [← hy] at c0
      unfold encF at c1 c0
      have HX := Lib.hid hx
      have HY := Lib.hid hy
      clear hx hy
      have hsf := sortFn_any x y
      have hw1 : IntKind.i64.wrap ((k : Int) - 1) = ((k - 1 : Nat) : Int) := by rw [IntKind.wrap_i64] <;> omega
      have hi1 : (k : Int) < (d.size : Int) := by omega
      have hi2 : ((k - 1 : Nat) : Int) < (d.size : Int) := by omega
      have hi3 : (0 : Int) ≤ ((k - 1 : Nat) : Int) := by omega
      have hi4 : ((k - 1 : Nat) : Int).toNat = k - 1 := by omega
      have hi0 : (0 : Int) ≤ (k : Int) := by omega
      have hnat : ((k : Int)).toNat = k := by omega
      by_cases hdup : x = y
      · rw [decide_eq_true hdup] at hsf
        have HSF := Lib.hid hsf
        have HD := Lib.hid hdup
        clear hsf hdup
        go_wp2_with fail
        go_quiet ((go_at_call 132; first | exact quiet_ret (HSF.out _) | exact quiet_base (HSF.out _)))
        have hnk : ¬ cap = k := by omega
        have hkc : (k : Int) ≤ (cap : Int) := by omega
        have hkn : (k : Int) ≤ (d.size : Int) := by omega
        go_wp2_with fail
        clear c0 c1 f0 f1
        go_loopw [5, 7] (fun s5 s7 wr => ∃ (kk k2 q2 : Nat) (dk : Array CF), s5 = .int .i64 kk ∧ s7 = .int .i64 k2 ∧ 1 ≤ k2 ∧ k + k2 ≤ d.size ∧ Hid (wr = putRow encF (Sort.ahead w q2) g 0 dk) ∧ Hid (CompInv d (k + k2) kk dk)) (fun _ s7 _ => d.size - (k + (intOf s7).toNat))
        case atStart => exact ⟨k, 1, q + nq, d, rfl, rfl, Nat.le_refl _, by omega, (putRow_self encF (Sort.ahead w (q + nq)) g 0 d (holds_ahead encF w (q + nq) g 0 d HH.out)).symm, CompInv.start HA.out (keeps_neg (by omega) (by rw [← HX.out, ← HY.out, HD.out]))⟩
        case round =>
         obtain ⟨kk, k2, q2, dk, rfl, rfl, h1, hle, HWR, HI⟩ := hrel
         have hkk := HI.out.lt
         have hds := HI.out.size
         have hHk : Holds encF wr g 0 dk := by rw [HWR.out]; exact holds_putRow encF _ g 0 d dk (holds_ahead encF w q2 g 0 d HH.out) hds
         clear hw1 hi1 hi2 hi3 hi4 hi0 hnat
         by_cases hlt2 : k + k2 < d.size
         · obtain ⟨cm, _⟩ := hHk (k + k2) (by omega)
           obtain ⟨cp, _⟩ := hHk (k + (k2 - 1)) (by omega)
           obtain ⟨ck, fk⟩ := hHk kk (by omega)
           rw [HI.out.high (k + k2) (by omega), Nat.zero_add] at cm
           rw [HI.out.high (k + (k2 - 1)) (by omega), Nat.zero_add] at cp
           rw [Nat.zero_add] at ck fk
           obtain ⟨u, hu⟩ : ∃ u, u = d[k + k2]! := ⟨_, rfl⟩
           obtain ⟨v, hv⟩ : ∃ v, v = d[k + (k2 - 1)]! := ⟨_, rfl⟩
           rw [← hu] at cm
           rw [← hv] at cp
           rw [show k + (k2 - 1) = k + k2 - 1 by omega] at hv
           unfold encF at cm cp
           have HU := Lib.hid hu
           have HV := Lib.hid hv
           have hsf2 := sortFn_any u v
           have hw1 : IntKind.i64.wrap ((k2 : Int) - 1) = ((k2 - 1 : Nat) : Int) := by rw [IntKind.wrap_i64] <;> omega
           have hi1 : (k2 : Int) < ((d.size - k : Nat) : Int) := by omega
           have hi2 : ((k2 - 1 : Nat) : Int) < ((d.size - k : Nat) : Int) := by omega
           have hi3 : (0 : Int) ≤ ((k2 - 1 : Nat) : Int) := by omega
           have hi4 : ((k2 - 1 : Nat) : Int).toNat = k2 - 1 := by omega
           have hi0 : (0 : Int) ≤ (k2 : Int) := by omega
           have hnat : ((k2 : Int)).toNat = k2 := by omega
           have hm1 : (kk : Int) < (d.size : Int) := by omega
           have hm0 : (0 : Int) ≤ (kk : Int) := by omega
           have hmn : ((kk : Int)).toNat = kk := by omega
           clear hu hv hHk
           by_cases huv : u = v
           · rw [decide_eq_true huv] at hsf2
             have HSF2 := Lib.hid hsf2
             have HD2 := Lib.hid huv
             clear hsf2 huv
             go_wp2_with fail
             go_quiet ((go_at_call 132; first | exact quiet_ret (HSF2.out _) | exact quiet_base (HSF2.out _)))
             go_wp2_with fail
             go_roundw
             case rel => exact ⟨kk, k2 + 1, q2 + nq, dk, rfl, by go_num, by omega, by omega, (by show _ = _; rw [HWR.out]; rw [putRow_drewN]), HI.out.skip (keeps_neg (by omega) (by rw [← HU.out, ← HV.out, HD2.out]))⟩
             case measure => simp [intOf]; omega
           · rw [decide_eq_false huv] at hsf2
             have HSF2 := Lib.hid hsf2
             have HD2 := Lib.hid huv
             clear hsf2 huv
             go_wp2_with fail
             go_quiet ((go_at_call 132; first | exact quiet_ret (HSF2.out _) | exact quiet_base (HSF2.out _)))
             go_wp2_with fail
             go_roundw
             case rel =>
              refine ⟨kk + 1, k2 + 1, q2 + nq, dk.setIfInBounds kk u, by go_num, by go_num, by omega, by omega, ?_, ?_⟩
              · show _ = _
                rw [HWR.out, show (Value.float FloatKind.f64 u.val) = encF u from rfl]
                have := putRow_set encF (Sort.ahead w (q2 + nq)) g 0 dk kk u (by omega)
                rw [Nat.zero_add] at this
                rw [← this, ← putRow_drewN]
                rfl
              · have := HI.out.keep hlt2 (keeps_pos (by rw [← HU.out, ← HV.out]; exact HD2.out))
                rw [← HU.out] at this
                exact this
             case measure => simp [intOf]; omega
         · have hend : k + k2 = d.size := by omega
           have hcl : ∀ ty, (Builtin.clear_ #[23] ty #[.slice (some ⟨g, kk, none⟩) (d.size - kk) (cap - kk)]).run Tryz.prog wr = .ok (.tuple #[]) (wr.setCells g kk (List.replicate (d.size - kk) (encF ⟨0, by decide, by decide⟩))) :=
            fun ty => Lib.run_clear_slice wr _ _ ty _ Tryz.underlying23 zeroF rfl rfl g kk _ _ (by omega) (fun j hj => by
             have := (hHk (kk + j) (by omega)).1
             rw [Nat.zero_add] at this
             rw [this]; rfl) (fun j hj => by
             have := (hHk (kk + j) (by omega)).2
             rw [Nat.zero_add] at this
             exact this)
           have HEND := Lib.hid hend
           have hck : ¬ cap = kk := by omega
           have hm1 : (kk : Int) ≤ (cap : Int) := by omega
           have hm2 : (kk : Int) ≤ (d.size : Int) := by omega
           have hge : ¬ (k2 : Int) < ((d.size - k : Nat) : Int) := by omega
           clear hHk hend
           go_wp2_with fail
           go_ret
           have hI := HI.out
           rw [HEND.out] at hI
           have e := putRow_setCells encF (Sort.ahead w q2) g 0 (List.replicate (d.size - kk) (⟨0, by decide, by decide⟩ : CF)) dk kk (by simp; omega)
           rw [Nat.zero_add, List.map_replicate] at e
           refine ⟨by rw [hI.len]; rfl, q2, ?_⟩
           rw [hI.len, ← hI.done ⟨0, by decide, by decide⟩, ← e, ← HWR.out]
      · rw [decide_eq_false hdup] at hsf
        have HSF := Lib.hid hsf
        have HD := Lib.hid hdup
        clear hsf hdup
        go_wp2_with fail
        go_quiet ((go_at_call 132; first | exact quiet_ret (HSF.out _) | exact quiet_base (HSF.out _)))
        go_wp2_with fail
        go_roundw
        case rel =>
         refine ⟨k + 1, q + nq, by omega, by omega, by go_num, by simp, ?_⟩
         intro j hj
         by_cases e : j = k
         · subst e
           exact keeps_pos (by rw [← HX.out, ← HY.out]; exact HD.out)
         · exact HA.out j (by omega)
        case measure => simp [intOf]; omega
    · have hke : k = d.size := by omega
      subst hke
      go_wp2_with fail
      go_ret
      obtain ⟨e1, e2⟩ := HS.out q HA.out
      exact ⟨by rw [e1]; rfl, q, e2⟩
end Go.Proofs.YtpknmfmpiachkaaGreat
namespace Go.Proofs.YtpknmfmpiachkaaGreat
open Go.RowKit Go.Sort Go.Shelf Go.Lib
theorem info_float : (Tryz.prog.info? 63).map (fun i => (i.zero, i.size, i.bytes)) = some (some (.float .f64 0), 1, 8) := by kernel_rfl
theorem cellsF_one (ws : List Nat) : ∀ u ∈ cellsF ws, u.oneCell' = true := by
 intro u hu
 obtain ⟨x, _, rfl⟩ := List.mem_map.1 hu
 rfl
theorem cellsF_append (a b : List Nat) : cellsF (a ++ b) = cellsF a ++ cellsF b := by simp [cellsF]
theorem wpList_appendF {w : World} {ops : Array Oper} {rest : List Oper} {o : Oper} {a : Act} {Q : Exit → Act → World → Prop} (hgd : o.guard = none) (s x : Operand)
 (ho : o.op = .call { callee := .builtin .append, args := #[s, x], argTypes := #[23, 23] })
 (base : Nat) (ao : Option Addr) (n cap : Nat) (vs : List Value) (hs : a.eval s = .slice ao n cap) (hown : w.ownsRow base 63 1 (.slice ao n cap) n vs)
 (ax : Option Addr) (m c : Nat) (xs : List Value) (hx : a.eval x = .slice ax m c) (hrow : RowN w ax 1 m xs) (hnil : ax = none → c = 0) (h1 : ∀ u ∈ xs, u.oneCell' = true) (hbig : n + m ≤ 2000000000000) (hbase : base ≤ w.heap.size) (N : Nat) (hN : n + m = N)
 (h : ∀ ao' cap' w', w'.ownsRow base 63 1 (.slice ao' N cap') N (vs ++ xs) → w.grownBy w' (Value.ownBlock (.slice ao n cap)) →
  (Value.ownBlock (.slice ao' N cap') = Value.ownBlock (.slice ao n cap) ∨ Value.ownBlock (.slice ao' N cap') = some w.heap.size) → wpList Tryz.prog ops Q rest (a.put o.dst (.slice ao' N cap')) w') : wpList Tryz.prog ops Q (o :: rest) a w := by
 obtain ⟨i0, hi, hz0, hz1, hz2⟩ := info_parts info_float
 exact wpList_append_row hgd s x _ ho base 63 i0 _ 1 8 Tryz.underlying23 hi hz0 hz1 hz2 rfl (by decide) ao n cap vs hs hown ax m c xs hx hrow.1 hrow.news hnil h1 (by simp only [maxLen]; omega) (by omega) hbase N hN h
theorem put_take1 {α : Type} [Inhabited α] (enc : α → Value) (d : Array α) (c : Array Value) (h : d.size ≤ c.size) : (putCells enc 0 d c).size = c.size ∧ (putCells enc 0 d c).toList.take d.size = d.toList.map enc := by
 refine ⟨by simp [putCells], ?_⟩
 apply List.ext_getElem?
 intro k
 rw [List.getElem?_take]
 by_cases hk : k < d.size
 · rw [if_pos hk, Array.getElem?_toList, List.getElem?_map, Array.getElem?_toList]
   unfold putCells
   rw [Array.getElem?_mapIdx, Array.getElem?_eq_getElem (show k < c.size by omega), Array.getElem?_eq_getElem hk]
   simp [hk]
 · rw [if_neg hk, List.getElem?_eq_none (by simpa using Nat.le_of_not_lt hk)]
theorem sorted_own1 {α : Type} [Inhabited α] (enc : α → Value) {w : World} {base g n cap e m : Nat} {xs : List Value} {os : Array Obj} (d : Array α) (hd : d.size = n)
 (h : w.ownsRow base e 1 (.slice (some ⟨g, 0, none⟩) n cap) n xs) : (grow (putRow enc (Sort.ahead w m) g 0 d) os).ownsRow base e 1 (.slice (some ⟨g, 0, none⟩) n cap) n (d.toList.map enc) ∧ Touch [g] w (grow (putRow enc (Sort.ahead w m) g 0 d) os) := by
 obtain ⟨hl, hv | ⟨g', cp, cur, hv, hb, hg, h1, h2, h3, h4⟩⟩ := h
 · simp at hv
 simp only [Value.slice.injEq, Option.some.injEq, Addr.mk.injEq, and_true, true_and] at hv
 obtain ⟨rfl, rfl⟩ := hv
 have hlt := lt_of_block hg
 have hle : d.size ≤ cur.size := by rw [hd, h3]; omega
 obtain ⟨p1, p2⟩ := put_take1 enc d cur hle
 refine ⟨⟨by simp [hd], .inr ⟨g, cap, putCells enc 0 d cur, rfl, hb, ?_, h1, h2, by rw [p1, h3], by rw [Nat.mul_one, ← hd, p2]⟩⟩, ?_⟩
 · show ((w.heap.modify g (onCells (putCells enc 0 d))) ++ os)[g]? = _
   rw [Array.getElem?_append_left (by simpa using hlt), Array.getElem?_modify, if_pos rfl, hg]
   rfl
 · refine ⟨rfl, rfl, rfl, ?_, fun j hj hn => ?_⟩
   · show w.heap.size ≤ ((w.heap.modify g (onCells (putCells enc 0 d))) ++ os).size
     simp
   · show ((w.heap.modify g (onCells (putCells enc 0 d))) ++ os)[j]? = _
     rw [Array.getElem?_append_left (by simpa using hj), Array.getElem?_modify, if_neg (fun e => hn (by simp [e]))]
theorem holds_own1 {α : Type} [Inhabited α] (enc : α → Value) {w : World} {base g n cap e : Nat} (d : Array α) (hd : d.size = n)
 (h : w.ownsRow base e 1 (.slice (some ⟨g, 0, none⟩) n cap) n (d.toList.map enc)) : Holds enc w g 0 d := by
 intro j hj
 obtain ⟨b, off, hb, hc⟩ := (RowN.of_own h).2 (by omega)
 simp only [Option.some.injEq, Addr.mk.injEq, and_true] at hb
 obtain ⟨rfl, rfl⟩ := hb
 refine ⟨hc j _ ?_, World.ownsRow.frozenAt h _⟩
 rw [List.getElem?_map, Array.getElem?_toList, Array.getElem?_eq_getElem hj, getElem!_pos d j hj]
 rfl
theorem srt_perm (ws : List Nat) : (srtF ws).length = ws.length := by unfold srtF; rw [List.length_mergeSort, List.length_map]
theorem sortFl_any (l : List CF) (base : Nat) (a : Option Addr) (n cap : Nat) (w : World) (h : w.ownsRow base 63 1 (.slice a n cap) n (l.map encF)) (hn : l.length = n) (hbig : n < 4611686018427387904) :
 Calls Tryz.prog 129 #[.slice a n cap, .func (.func 130) #[] #[]] w fun e w' => e = .returned (.tuple #[]) ∧
  w'.ownsRow base 63 1 (.slice a n cap) n ((l.mergeSort fun x y => !(ltOf cfF) y x).map encF) ∧ ∀ B, B ≤ base → B ≤ w.heap.size → Below B w w' := by
 rcases h.2 with ⟨hv, h0⟩ | ⟨g, cp, cur, hv, hbg, _⟩
 · subst h0
   have hl0 : l = [] := List.eq_nil_of_length_eq_zero hn
   subst hl0
   have hS := AnyF.slices_SortFunc_none (P := Tryz.prog) (ρ := Tryz.sortFlo_ren) { Tryz.sortFlo with } a cap (.func (.func 130) #[] #[]) w
   refine hS.mono ?_
   rintro e w' ⟨rfl, rfl⟩
   exact ⟨rfl, by rw [List.mergeSort_nil]; exact h, fun B _ _ => Below.refl _ _⟩
 · simp only [Value.slice.injEq, true_and] at hv
   obtain ⟨rfl, rfl⟩ := hv
   have hsz : l.toArray.size = n := by rw [List.size_toArray, ← hn]
   have eg : ∀ args w, (callFunc 130 args).run Tryz.prog w = .ok (.enter 130 args) w := enters_of Tryz.func130 (by kernel_rfl) rfl
   have hH : Holds encF w g 0 l.toArray := holds_own1 encF l.toArray hsz h
   have hS := Any.slices_SortFunc_total Tryz.sortFlo encF oneF cfF swoF 130 #[] g 0 cap l.toArray w eg (cmpLaysF g 0 l.toArray.size w) hH (h.lt g rfl).2 (by rw [hsz]; exact hbig) totF
   rw [hsz] at hS
   refine hS.mono ?_
   rintro e w' ⟨rfl, m, os, rfl⟩
   have hp : (l.toArray.toList.mergeSort fun x y => !(ltOf cfF) y x).toArray.size = n := by rw [List.size_toArray, List.length_mergeSort, ← hsz]; simp
   obtain ⟨k1, k2⟩ := sorted_own1 encF (m := m) (os := os) _ hp h
   refine ⟨rfl, ?_, fun B hB hBw => ⟨k2.os, k2.tape, k2.output, k2.size, fun j hj => k2.block j (by omega) (by simp; omega)⟩⟩
   exact k1
def RetKeys (w : World) (l : List Nat) (e : Ending) (w' : World) : Prop :=
 ∃ ao n cap, e = .returned (.slice ao n cap) ∧ l.length = n ∧ RowN w' ao 1 n (cellsF l) ∧ Below w.heap.size w w'
set_option maxHeartbeats 800000 in
theorem compact_nil (a : Option Addr) (cap : Nat) (w : World) : Calls Tryz.prog 131 #[.slice a 0 cap, .func (.func 132) #[] #[]] w (RetEq w (.slice a 0 cap)) := by
 go_enter Tryz.func131, Tryz.ntmps131
 go_wp2_with fail
 go_ret
 exact ⟨rfl, rfl⟩
theorem keys_map (l : List CF) : l.map encF = cellsF (l.map Subtype.val) := by unfold cellsF; rw [List.map_map]; rfl
theorem compact_own (l : List CF) (base : Nat) (a : Option Addr) (n cap : Nat) (w : World) (h : w.ownsRow base 63 1 (.slice a n cap) n (l.map encF)) (hn : l.length = n) (hbig : n ≤ 1000000000000) (hbw : base ≤ w.heap.size) :
 Calls Tryz.prog 131 #[.slice a n cap, .func (.func 132) #[] #[]] w fun e w' =>
  ∃ m, e = .returned (.slice a m cap) ∧ ((compactUpTo l.toArray l.length).map Subtype.val).length = m ∧ RowN w' a 1 m (cellsF ((compactUpTo l.toArray l.length).map Subtype.val)) ∧ Below base w w' := by
 have hcp := own_cap h
 rcases h.2 with ⟨hv, h0⟩ | ⟨g, cp, cur, hv, hbg, _⟩
 · subst h0
   have hl0 : l = [] := List.eq_nil_of_length_eq_zero hn
   subst hl0
   refine (compact_nil a cap w).mono ?_
   rintro e w' ⟨rfl, rfl⟩
   exact ⟨0, rfl, rfl, RowN.nil _ _ _, Below.refl _ _⟩
 · simp only [Value.slice.injEq, true_and] at hv
   obtain ⟨rfl, rfl⟩ := hv
   have hsz : l.toArray.size = n := by rw [List.size_toArray, ← hn]
   have hH : Holds encF w g 0 l.toArray := holds_own1 encF l.toArray hsz h
   have hC := compact_any g cap l.toArray w hH (by rw [hsz]; exact hbig) (by rw [hsz]; exact hcp.1) (by have := hcp.2.1; unfold maxLen at this; exact this)
   rw [hsz] at hC
   refine hC.mono ?_
   rintro e w' ⟨rfl, q, rfl⟩
   rw [hn]
   obtain ⟨C, hCC⟩ : ∃ C, C = compactUpTo l.toArray n := ⟨_, rfl⟩
   rw [← hCC]
   have hCl : C.length ≤ n := by
    rw [hCC]
    unfold compactUpTo
    rw [List.length_map]
    refine Nat.le_trans (List.length_filter_le _ _) ?_
    rw [List.length_range]
    exact Nat.le_refl _
   obtain ⟨k1, k2⟩ := sorted_own1 encF (m := q) (os := #[]) (C ++ List.replicate (n - C.length) (⟨0, by decide, by decide⟩ : CF)).toArray (by simp; omega) h
   rw [grow_empty] at k1 k2
   refine ⟨C.length, rfl, by rw [List.length_map], ?_, ⟨k2.os, k2.tape, k2.output, k2.size, fun j hj => k2.block j (by omega) (by simp; omega)⟩⟩
   rw [← keys_map]
   have hr := RowN.of_own k1
   refine ⟨by simp, fun hpos => ?_⟩
   obtain ⟨b, off, hb, hc⟩ := hr.2 (by omega)
   refine ⟨b, off, hb, fun j u hu => hc j u ?_⟩
   rw [List.toList_toArray, List.map_append, List.getElem?_append_left (by rw [List.length_map]; have := (List.getElem?_eq_some_iff.1 hu).1; simpa using this)]
   exact hu
end Go.Proofs.YtpknmfmpiachkaaGreat
namespace Go.Proofs.YtpknmfmpiachkaaGreat
open Go.RowKit Go.Sort Go.Shelf Go.Lib
theorem toCF_keys (ws : List Nat) (h : ∀ x ∈ ws, x < 18446744073709551616) : (ws.map toCF).map encF = cellsF (ws.map Flo.canon) := by
 rw [keys_map, List.map_map]
 congr 1
 apply List.map_congr_left
 intro x hx
 exact toCF_val x (h x hx)
set_option maxRecDepth 100000 in
set_option maxHeartbeats 3200000 in
theorem floSort_any (ws : List Nat) (hws : ∀ x ∈ ws, x < 18446744073709551616) (a : Option Addr) (n cap : Nat) (w : World) (hrow : RowN w a 1 n (cellsF ws)) (hl : ws.length = n) (hn : n ≤ 1000000000000) :
 Calls Tryz.prog 94 #[.slice a n cap] w (RetKeys w (sortF ws)) := by
 have HROW := Lib.hid hrow
 have HL := Lib.hid hl
 have HW := Lib.hid hws
 clear hrow hl hws
 go_enter Tryz.func94, Tryz.ntmps94
 go_wp2_with fail
 go_loopw [3, 8] (fun v i wr => ∃ (k : Nat) (ao : Option Addr) (cp : Nat), i = .int .i64 k ∧ k ≤ n ∧ v = .slice ao k cp ∧ Hid (wr.ownsRow w.heap.size 63 1 (.slice ao k cp) k (cellsF ((ws.take k).map Flo.canon))) ∧ Hid (Below w.heap.size w wr)) (fun _ i _ => n - (intOf i).toNat)
 case atStart => exact ⟨0, none, 0, rfl, Nat.zero_le _, rfl, World.ownsRow_nil w _ _ 1, Below.refl _ _⟩
 case round =>
  obtain ⟨k, ao, cp, rfl, hk, rfl, HOWN, HB⟩ := hrel
  by_cases hlt : k < n
  · obtain ⟨x, hx⟩ : ∃ x, ws[k]? = some x := ⟨_, List.getElem?_eq_getElem (by rw [HL.out]; exact hlt)⟩
    obtain ⟨b, off, rfl, e0⟩ := float_at (HROW.out.below HB.out) k hlt x hx
    have hkn : (k : Int) < (n : Int) := by omega
    have hk0 : (0 : Int) ≤ (k : Int) := by omega
    have hnat : ((k : Int)).toNat = k := by omega
    have hbs := HB.out.size
    have HX := Lib.hid hx
    clear hx
    go_wp2_with fail
    refine (canon_any x _).mono ?_
    rintro e w1 ⟨rfl, rfl⟩
    go_wp2_with (at_builtin; refine wpList_appendF rfl (.tmp 12) (.tmp 15) rfl w.heap.size ao k cp (cellsF ((ws.take k).map Flo.canon)) rfl (own_keep HOWN.out fun g _ hl => alloc_far rfl hl) (some ⟨wr.heap.size, 0, none⟩) 1 1 (cellsF [Flo.canon x]) rfl (RowN.newH _ _ _ 1 1 _ _ rfl rfl rfl) (fun h => by cases h) (cellsF_one _) (by omega) (by simp; omega) (k + 1) rfl ?_; intro ao3 cp3 w3 hown3 hg3 hat3)
    refine ⟨⟨k + 1, ao3, cp3, by go_num, by omega, rfl, ?_, ((HB.out.alloc hbs _).grown hg3 (by simp; omega) (fun g' hg' => (HOWN.out.lt g' hg').1))⟩, by simp [intOf]; omega⟩
    show World.ownsRow _ _ _ _ _ _ _
    rw [List.take_add_one, HX.out, Option.toList_some, List.map_append, cellsF_append]
    exact hown3
  · obtain rfl : n = k := by omega
    have ho := HOWN.out
    rw [List.take_of_length_le (by rw [HL.out]; exact Nat.le_refl _), ← toCF_keys ws HW.out] at ho
    have hbs := HB.out.size
    have hs := sortFl_any (ws.map toCF) w.heap.size ao n cp wr ho (by rw [List.length_map]; exact HL.out) (by omega)
    have HS := Lib.hid hs
    clear hs ho
    go_wp2_with fail
    refine HS.out.mono ?_
    rintro e w2 ⟨rfl, hown2, hb2⟩
    have hb2' := hb2 w.heap.size (Nat.le_refl _) hbs
    have hc := compact_own (srtF ws) w.heap.size ao n cp w2 hown2 (by rw [srt_perm]; exact HL.out) hn (Nat.le_trans hbs hb2'.size)
    have HC := Lib.hid hc
    have HB2 := Lib.hid (HB.out.trans hb2')
    clear hc hb2 hown2 hb2'
    go_wp2_with fail
    refine HC.out.mono ?_
    rintro e w3 ⟨m, rfl, hm, hr, hb3⟩
    go_wp2_with fail
    go_ret
    exact ⟨ao, m, cp, rfl, hm, hr, HB2.out.trans hb3⟩
set_option maxRecDepth 100000 in
set_option maxHeartbeats 1600000 in
theorem rising_any (ws : List Nat) (hws : ∀ x ∈ ws, x < 18446744073709551616) (a : Option Addr) (n cap : Nat) (w : World) (hrow : RowN w a 1 n (cellsF ws)) (hl : ws.length = n) (hn : n ≤ 1000000000000) :
 Calls Tryz.prog 51 #[.slice a n cap] w (RetBox w (.bool (eqL eqW ws (sortF ws)))) := by
 have hs := floSort_any ws hws a n cap w hrow hl hn
 have hle : (sortF ws).length ≤ n := by
  unfold sortF
  rw [List.length_map]
  unfold compactUpTo
  rw [List.length_map]
  refine Nat.le_trans (List.length_filter_le _ _) ?_
  rw [List.length_range, srt_perm, hl]
  exact Nat.le_refl _
 have HS := Lib.hid hs
 have HROW := Lib.hid hrow
 have HL := Lib.hid hl
 clear hs hrow hl hws
 go_enter Tryz.func51, Tryz.ntmps51
 go_wp2_with fail
 refine HS.out.mono ?_
 rintro e w1 ⟨ao, m, cp, rfl, hm, hr, hb1⟩
 have hq := eqF_any ws (sortF ws) a ao n m cap cp w1 (HROW.out.below hb1) hr HL.out hm hn (by omega)
 have HQ := Lib.hid hq
 have HB := Lib.hid hb1
 clear hq hm hr hb1
 go_wp2_with fail
 refine HQ.out.mono ?_
 rintro e w2 ⟨rfl, rfl⟩
 go_wp2_with fail
 go_ret
 exact ⟨rfl, HB.out⟩
end Go.Proofs.YtpknmfmpiachkaaGreat
