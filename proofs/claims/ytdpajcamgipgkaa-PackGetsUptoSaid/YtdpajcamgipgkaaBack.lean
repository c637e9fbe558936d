/- PackBack: values that are put are got back: the walk. -/
import Derived.Test.YtdpajcamgipgkaaOnes
import Derived.Test.YtdpajcamgipgkaaSame
import Derived.Test.YtdpajcamgipgkaaOpen
namespace Go.Proofs.Ytdpajcamgipgkaa
open Go.RowKit

theorem info_int : (Try.prog.info? 3).map (fun i => (i.zero, i.size, i.bytes)) = some (some (.int .i64 0), 1, 8) := by kernel_rfl
/-- 'out = append(out, x)': out the call's own slice of ints. -/
theorem wpList_appendInt {w : World} {ops : Array Oper} {rest : List Oper} {o : Oper} {a : Act} {Q : Exit → Act → World → Prop} (hgd : o.guard = none) (s x : Operand)
    (ho : o.op = .call { callee := .builtin .append, args := #[s, x], argTypes := #[55, 55] })
    (base : Nat) (ao : Option Addr) (n cap : Nat) (vs : List Value) (hs : a.eval s = .slice ao n cap) (hown : w.ownsRow base 3 1 (.slice ao n cap) n vs)
    (ax : Option Addr) (m c : Nat) (xs : List Value) (hx : a.eval x = .slice ax m c) (hrow : RowN w ax 1 m xs) (hnil : ax = none → c = 0) (h1 : ∀ u ∈ xs, u.oneCell' = true) (hbig : n + m ≤ 1000000000000) (hbase : base ≤ w.heap.size) (N : Nat) (hN : n + m = N)
    (h : ∀ ao' cap' w', w'.ownsRow base 3 1 (.slice ao' N cap') N (vs ++ xs) → w.grownBy w' (Value.ownBlock (.slice ao n cap)) →
      (Value.ownBlock (.slice ao' N cap') = Value.ownBlock (.slice ao n cap) ∨ Value.ownBlock (.slice ao' N cap') = some w.heap.size) → wpList Try.prog ops Q rest (a.put o.dst (.slice ao' N cap')) w') : wpList Try.prog ops Q (o :: rest) a w := by
  obtain ⟨i0, hi, hz0, hz1, hz2⟩ := info_parts info_int
  exact wpList_append_row hgd s x _ ho base 3 i0 _ 1 8 Try.underlying55 hi hz0 hz1 hz2 rfl (by decide) ao n cap vs hs hown ax m c xs hx hrow.1 hrow.news hnil h1 (by simp only [maxLen]; omega) (by omega) hbase N hN h

/-! ### The plain law -/
theorem put_ok_err (vs : List Vl) : ∀ acc bs, putAll vs acc = (bs, 0) → ∀ v ∈ vs, v.err = 0 := by
  induction vs with
  | nil => intro _ _ _ v hv; cases hv
  | cons x r ih =>
    intro acc bs h v hv
    by_cases hx : x.err = 0
    · rw [putAll_ok hx] at h
      rcases List.mem_cons.1 hv with rfl | hv
      · exact hx
      · exact ih _ _ h v hv
    · rw [putAll_no hx] at h
      injection h with _ h
      exact absurd h hx
theorem err_fits {w : World} (v : Vl) (hok : Vl.ok w v) (h : v.err = 0) : v.pv.fit ∧ v.s.bs.length = v.s.len := by
  have hl := hok.1.1.1
  have hk : (1 ≤ v.kind ∧ v.kind ≤ 4) ∧ (v.kind = 3 → v.s.len ≤ 4096) := by
    unfold Vl.err at h
    split at h
    · rename_i h3
      split at h
      · rename_i h4
        exact ⟨by omega, fun _ => h4⟩
      · cases h
    · split at h
      · rename_i h3 h4
        exact ⟨by omega, fun e => absurd e h3⟩
      · cases h
  exact ⟨⟨hk.1, hok.2.2.1, hok.2.1, fun e => by have := hk.2 e; simp only [Vl.pv]; omega⟩, hl⟩

theorem back_law {w : World} {vs : List Vl} {bs : List UInt8} (hok : ∀ v ∈ vs, Vl.ok w v) (hp : putAll vs [] = (bs, 0)) :
    getV (vs.map Vl.kind) bs = ((vs.map Vl.pv).map Pv.norm, 0) ∧ (∀ m, getV (vs.map Vl.kind) (bs ++ [m]) = ([], 30)) ∧ (0 < bs.length → getV (vs.map Vl.kind) (bs.take (bs.length - 1)) = ([], 30)) ∧ ∀ v ∈ vs, v.pv.fit := by
  have hf := fun v hv => err_fits v (hok v hv) (put_ok_err vs [] bs hp v hv)
  have he := put_fit vs hf []
  rw [hp, List.nil_append] at he
  injection he with he _
  have hfit : ∀ p ∈ vs.map Vl.pv, p.fit := fun p hp => by
    obtain ⟨v, hv, rfl⟩ := List.mem_map.1 hp
    exact (hf v hv).1
  have hkk : (vs.map Vl.pv).map Pv.kind = vs.map Vl.kind := by rw [List.map_map]; rfl
  have hz : ∀ z ∈ vs.map Vl.kind, 1 ≤ z ∧ z ≤ 4 := fun z hz => by
    obtain ⟨v, hv, rfl⟩ := List.mem_map.1 hz
    exact (hf v hv).1.k
  have hb : (vs.map Vl.kind).any badKind = false := by
    rw [List.any_eq_false]
    intro z h
    have := hz z h
    simp [badKind]
    omega
  have hacc : ∀ r, getAcc (vs.map Vl.kind) (bs ++ r) [] = some ((vs.map Vl.pv).map Pv.norm, r) := fun r => by
    have := getAcc_bytes r (vs.map Vl.pv) hfit []
    rw [hkk, ← he] at this
    exact this
  refine ⟨getV_yes hz (by have := hacc []; rw [List.append_nil] at this; exact this), fun m => ?_, fun h0 => ?_, fun v hv => (hf v hv).1⟩
  · rw [getV, if_neg (by simp [hb]), hacc [m]]
  · rw [getV, if_neg (by simp [hb])]
    cases hg : getAcc (vs.map Vl.kind) (bs.take (bs.length - 1)) [] with
    | none => rfl
    | some q =>
      obtain ⟨ps, r⟩ := q
      have h1 := getAcc_more hz (t := bs.drop (bs.length - 1)) hg
      have h2 := hacc []
      rw [List.append_nil] at h2
      rw [List.take_append_drop, h2] at h1
      injection h1 with h1
      injection h1 with _ h1
      have h3 : (r ++ bs.drop (bs.length - 1)).length = 0 := by rw [← h1]; rfl
      rw [List.length_append, List.length_drop] at h3
      omega
theorem same_norm {u v : Vl} (h : u.pv = v.pv.norm) (hf : v.pv.fit) : SameV u v := by
  have h0 : u.kind = v.kind := congrArg Pv.kind h
  have h1 : u.n = (if v.pv.kind = 1 then v.pv.n else 0) := congrArg Pv.n h
  have h2 : u.x = (if v.pv.kind = 2 then Flo.canon v.pv.x else 0) := congrArg Pv.x h
  have h3 : u.s.bs = (if v.pv.kind = 3 then v.pv.bs else []) := congrArg Pv.bs h
  have h4 : u.on = (if v.pv.kind = 4 then v.pv.on else false) := congrArg Pv.on h
  have hk : 1 ≤ v.kind ∧ v.kind ≤ 4 := hf.k
  refine ⟨h0.symm, by rw [h0]; exact hk, fun e => ?_, fun e => ?_, fun e => ?_, fun e => ?_⟩
  · rw [if_pos (show v.pv.kind = 1 from h0.symm.trans e)] at h1; exact h1.symm
  · rw [if_pos (show v.pv.kind = 2 from h0.symm.trans e)] at h2
    rw [h2, Flo.canon_canon]
    rfl
  · rw [if_pos (show v.pv.kind = 3 from h0.symm.trans e)] at h3; exact h3.symm
  · rw [if_pos (show v.pv.kind = 4 from h0.symm.trans e)] at h4; exact h4.symm
theorem same_norms {us vs : List Vl} (h : us.map Vl.pv = (vs.map Vl.pv).map Pv.norm) (hf : ∀ v ∈ vs, v.pv.fit) : ∀ (i : Nat) u v, us[i]? = some u → vs[i]? = some v → SameV u v := by
  intro i u v hu hv
  refine same_norm ?_ (hf v (List.mem_of_getElem? hv))
  have h1 : (us.map Vl.pv)[i]? = some u.pv := by rw [List.getElem?_map, hu]; rfl
  rw [h, List.getElem?_map, List.getElem?_map, hv] at h1
  simpa using h1.symm

theorem norm_fit {p : Pv} (h : p.fit) : p.norm.fit := by
  refine ⟨h.k, ?_, ?_, fun e => ?_⟩
  · simp only [Pv.norm]
    split
    · exact h.n
    · omega
  · simp only [Pv.norm]
    split
    · exact Flo.canon_lt _ h.x
    · omega
  · have e' : p.kind = 3 := e
    simp only [Pv.norm]
    rw [if_pos e']
    exact h.b e'
theorem of_len (a : Option Addr) (len cap : Nat) (vs : List Vl) (w : World) (hr : RowN w a 5 len (vs.flatMap Vl.cells)) (hs : vs.length = len) (hlen : len ≤ 4294967296) :
    Calls Try.prog 35 #[.slice a len cap] w fun e w' => ∃ ao cap, e = .returned (.slice ao len cap) ∧ w'.ownsRow w.heap.size 81 5 (.slice ao len cap) len (vs.flatMap Vl.cells) ∧ Below w.heap.size w w' :=
  (of_any a len cap vs w hr hs hlen).mono fun _ _ ⟨ao, c, he, ho, hb⟩ => ⟨ao, c, by rw [← hs]; exact he, by rw [hs] at ho; exact ho, hb⟩

set_option maxRecDepth 100000 in
set_option maxHeartbeats 6400000 in
theorem packBack_walk (a : Option Addr) (len cap : Nat) (vs : List Vl) (more : Int) (w : World) (hr : RowN w a 5 len (vs.flatMap Vl.cells)) (hs : vs.length = len) (hok : ∀ v ∈ vs, Vl.ok w v) (_hlc : len ≤ cap) (_hcm : cap ≤ maxLen) (_hn : a = none → cap = 0)
    (hm : (Lit.int .u8 more).wf = true) (hbulk : bulkV vs ≤ 1048576) :
    Calls Try.prog 13 #[.slice a len cap, .int .u8 more] w fun e w' => e = .returned (.bool true) ∧ Below w.heap.size w w' := by
  subst hs
  have hstf := store_float
  have hll := putAll_len vs (fun v hv => (hok v hv).1.1.1) []
  have hlb := bulkV_len vs
  have hby := byte_of more hm
  obtain ⟨mb, hmb⟩ : ∃ mb, mb = UInt8.ofNat more.toNat := ⟨_, rfl⟩
  rw [← hmb] at hby
  subst hby
  have hput := fun w' (hb : Below w.heap.size w w') => put_any a vs.length cap vs w' (hr.below hb) rfl (fun v hv => ⟨(hok v hv).1.below hb, (hok v hv).2⟩) (by omega)
  have hof := fun w' (hb : Below w.heap.size w w') => of_any a vs.length cap vs w' (hr.below hb) rfl (by omega)
  have hoks := fun w' (hb : Below w.heap.size w w') v hv => (⟨(hok v hv).1.below hb, (hok v hv).2⟩ : Vl.ok w' v)
  obtain ⟨bs, c, hp⟩ : ∃ bs c, putAll vs [] = (bs, c) := ⟨_, _, rfl⟩
  have hlaw := fun (h : c = 0) => back_law (w := w) hok (bs := bs) (by rw [hp, h])
  have hne := fun (h : c ≠ 0) => putAll_nil_err vs [] (by rw [hp]; exact h)
  rw [hp] at hput hll hne
  simp only [List.length_nil, Nat.zero_add] at hput hll hne
  obtain ⟨L, hL⟩ : ∃ L, L = bs.length := ⟨_, rfl⟩
  rw [← hL] at hput hll hlaw
  have HL := Lib.hid hL
  obtain ⟨m, hmv⟩ : ∃ m, m = vs.length := ⟨_, rfl⟩
  rw [← hmv] at hput hof hlb hr ⊢
  have hml := hmv.symm
  have HMV := Lib.hid hml
  have HR := Lib.hid hr
  have HP := Lib.hid hput
  have HOF := Lib.hid hof
  have HOKS := Lib.hid hoks
  have HLAW := Lib.hid hlaw
  have HNE := Lib.hid hne
  clear hput hof hoks hlaw hne hp hmv hL hml hr hok hmb hm
  go_enter Try.func13, Try.ntmps13
  go_wp2_with fail
  refine (putting_any _).mono ?_
  rintro e w1 ⟨rfl, hb1⟩
  have hz1 := hb1.size
  go_wp2_with fail
  refine (getting_any _).mono ?_
  rintro e w2 ⟨rfl, hb2⟩
  replace hb2 := hb1.trans (hb2.mono hz1)
  have hz2 := hb2.size
  go_wp2_with fail
  refine (HP.out _ hb2).mono ?_
  rintro e w3 ⟨ao3, c3, rfl, hown3, hb3⟩
  have hbw3 := hb2.trans (hb3.mono hz2)
  have hz3 := hbw3.size
  have HO3 := Lib.hid hown3
  have HB3 := Lib.hid hbw3
  clear hb1 hb2 hb3 hown3 hbw3
  by_cases hc : c = 0
  · subst hc
    obtain ⟨g1, g2, g3, hfit⟩ := HLAW.out rfl
    have G1 := Lib.hid g1
    have G2 := Lib.hid g2
    have G3 := Lib.hid g3
    have HF := Lib.hid hfit
    clear g1 g2 g3 hfit
    go_wp2_with fail
    go_loopw [7, 35] (fun v i wr => ∃ (k : Nat) (ak : Option Addr) (ck : Nat), k ≤ m ∧ i = .int .i64 k ∧ v = .slice ak k ck ∧ wr.ownsRow w3.heap.size 3 1 (.slice ak k ck) k (cellsI ((vs.take k).map Vl.kind)) ∧ Below w3.heap.size w3 wr) (fun _ i _ => m - (intOf i).toNat)
    case atStart => exact ⟨0, _, 0, by omega, rfl, rfl, World.ownsRow_lit w3 #[] 0 (Nat.le_refl _) (by decide) rfl, (Below.refl _ _).alloc (Nat.le_refl _) _⟩
    case round =>
      obtain ⟨k, ak, ck, hk, rfl, rfl, hoa, hbw⟩ := hrel
      have hsz := hbw.size
      have hbww := HB3.out.trans (hbw.mono hz3)
      by_cases hlt : k < m
      · obtain ⟨v, hv⟩ : ∃ v, vs[k]? = some v := ⟨_, List.getElem?_eq_getElem (by rw [HMV.out]; exact hlt)⟩
        obtain ⟨b, off, rfl, hc0, hc1, hc2, hc3, hc4⟩ := vals_at (HR.out.below hbww) HMV.out k hlt v hv
        have htk : cellsI ((vs.take (k + 1)).map Vl.kind) = cellsI ((vs.take k).map Vl.kind) ++ [.int .i64 v.kind] := by
          rw [List.take_add_one, hv]
          simp [cellsI]
        have HT := Lib.hid htk
        clear htk hv
        obtain ⟨kind, nn, x, s, on⟩ := v
        have hoa2 : ∀ o o2, ((wr.alloc o).alloc o2).ownsRow w3.heap.size 3 1 (.slice ak k ck) k (cellsI ((vs.take k).map Vl.kind)) := fun o o2 => (hoa.alloc o).alloc o2
        have HOX2 := Lib.hid hoa2
        have HOA := Lib.hid hoa
        have HBW := Lib.hid hbw
        clear hoa hoa2 hbw hbww
        simp only [Sl.val] at hc0 hc1 hc2 hc3 hc4
        have hkl : (k : Int) < (m : Int) := by omega
        go_wp2_with (at_builtin; refine wpList_appendInt rfl (.tmp 39) (.tmp 42) rfl w3.heap.size ak k ck (cellsI ((vs.take k).map Vl.kind)) rfl (HOX2.out _ _) (some ⟨wr.heap.size + 1, 0, none⟩) 1 1 [.int .i64 kind] rfl (RowN.new2 _ _ _ _ 1 1 _ _ rfl rfl rfl) (fun h => by cases h) (fun u hu => by rw [List.mem_singleton] at hu; subst hu; rfl) (by omega) (by simp; omega) (k + 1) rfl ?_; intro ao' cap' w1' hown1 hg1 hat1)
        go_roundw
        case rel =>
          refine ⟨k + 1, ao', cap', by omega, by go_num, rfl, ?_, ((HBW.out.alloc hsz _).alloc (by rw [World.size_alloc]; omega) _).grown hg1 (by rw [World.size_alloc, World.size_alloc]; omega) (fun g hg => (World.ownsRow.lt HOA.out g hg).1)⟩
          rw [HT.out]
          exact hown1
        case measure => simp [intOf]; omega
      · have hke : k = m := by omega
        subst hke
        have ht : vs.take k = vs := List.take_of_length_le (by rw [HMV.out]; exact Nat.le_refl _)
        rw [ht] at hoa
        have HKR := Lib.hid (RowN.of_own hoa)
        have HBW := Lib.hid hbww
        have HBQ := Lib.hid hbw
        have HO3' := Lib.hid (HO3.out.below hbw (Nat.le_refl _))
        clear hoa hbww ht hbw
        have hzr := HBW.out.size
        have hget := fun w' (h : Below wr.heap.size wr w') a' L' c' bs' (hr' : Row8 w' a' L' bs') (h1 : L' ≤ c') (h2 : c' ≤ maxLen) (h3 : a' = none → c' = 0) => get_any a' L' c' bs' ak k ck (vs.map Vl.kind) w' hr' h1 h2 h3 ((HKR.out).below h) (by omega)
        have HGET := Lib.hid hget
        clear hget
        have hcap3 := HO3'.out.cap
        go_wp2_with fail
        refine (HGET.out wr (Below.refl _ _) ao3 L c3 bs HO3'.out.row hcap3.1 hcap3.2 HO3'.out.nocap).mono ?_
        rw [G1.out]
        rintro e w4 ⟨us, ao4, n4, c4, rfl, hpv, hO4, hb4⟩
        have hz4 := hb4.size
        have hbw4 := HBW.out.trans (hb4.mono hzr)
        have hul : us.length = k := by
          have h1 := congrArg List.length hpv
          simp only [List.length_map] at h1
          rw [h1]
          exact HMV.out
        obtain rfl : k = n4 := by rw [← hO4.len]; exact hul.symm
        have hfu : ∀ u ∈ us, u.pv.fit := fun u hu => by
          have h1 : u.pv ∈ us.map Vl.pv := List.mem_map_of_mem hu
          rw [hpv] at h1
          simp only [List.map_map] at h1
          obtain ⟨v, hv, h2⟩ := List.mem_map.1 h1
          rw [← h2]
          exact norm_fit (HF.out v hv)
        have huok := hO4.ok hfu
        have hsm := same_norms hpv HF.out
        have HUL := Lib.hid hul
        have HUOK := Lib.hid huok
        have HSM := Lib.hid hsm
        have HROW4 := Lib.hid (RowN.of_own hO4.row)
        have HO34 := Lib.hid (HO3'.out.below (B := wr.heap.size) hb4 (Nat.le_refl _))
        have HB4 := Lib.hid hb4
        have HBW4 := Lib.hid hbw4
        clear hpv hfu huok hsm hO4 hul hb4 hbw4
        have hL9 : L ≤ 10485760 := by omega
        go_wp2_with (first
          | (at_builtin; refine wpList_append8 rfl (.tmp 52) (.tmp 53) rfl w4.heap.size (some ⟨w4.heap.size, 0, none⟩) 0 0 [] rfl (Own8.made w4 _ _ [] 0 (Nat.le_refl _) (by decide) rfl rfl) ao3 L c3 bs rfl (HO34.out.row.alloc _) HO34.out.nocap (by omega) (by rw [World.size_alloc]; omega) L (by omega) ?_; intro ao5 c5 w5 hown5 hg5 hat5)
          | (at_builtin; refine wpList_append8 rfl (.tmp 54) (.tmp 56) rfl w4.heap.size ao5 L c5 bs rfl (hown5.below (B := w5.heap.size) ((Below.refl _ _).alloc (Nat.le_refl _) _) (Nat.le_refl _)) (some ⟨w5.heap.size, 0, none⟩) 1 1 [mb] rfl (Row8.new _ _ _ _ [mb] 1 rfl rfl) (fun h => by cases h) (by omega) (by have := hg5.size; rw [World.size_alloc] at this ⊢; omega) (L + 1) rfl ?_; intro ao6 c6 w6 hown6 hg6 hat6))
        have hb5 : Below w4.heap.size w4 w5 := ((Below.refl _ _).alloc (Nat.le_refl _) _).grown hg5 (by rw [World.size_alloc]; omega) (fun g hg => by simp [Value.ownBlock] at hg; omega)
        have hz5 := hb5.size
        have hb6 : Below w4.heap.size w4 w6 := (hb5.alloc hz5 _).grown hg6 (by rw [World.size_alloc]; omega) (fun g hg => (hown5.block g hg).1)
        have hz6 := hb6.size
        have hbr6 : Below wr.heap.size wr w6 := HB4.out.trans (hb6.mono hz4)
        have HO6 := Lib.hid hown6
        have HB6 := Lib.hid hb6
        have HBR6 := Lib.hid hbr6
        clear hb5 hb6 hbr6 hown5 hown6 hat5 hat6 hg5 hg6
        have hcap6 := HO6.out.cap
        refine (HGET.out w6 HBR6.out ao6 (L + 1) c6 (bs ++ [mb]) HO6.out.row hcap6.1 hcap6.2 HO6.out.nocap).mono ?_
        rw [G2.out]
        rintro e w7 ⟨us7, ao7, n7, c7, rfl, hpv7, hO7, hb7⟩
        have hb47 : Below w4.heap.size w4 w7 := HB6.out.trans (hb7.mono hz6)
        have hz7 := hb47.size
        have HB47 := Lib.hid hb47
        clear hpv7 hO7 hb7 hb47
        go_wp2_with fail
        refine (of_len ao4 k c4 us w7 (HROW4.out.below HB47.out) HUL.out (by omega)).mono ?_
        rintro e w8 ⟨ao8, c8, rfl, hown8, hb8⟩
        have hb48 : Below w4.heap.size w4 w8 := HB47.out.trans (hb8.mono hz7)
        have hz8 := hb48.size
        have HB48 := Lib.hid hb48
        have HB8 := Lib.hid hb8
        have HO8 := Lib.hid hown8
        clear hb48 hb8 hown8
        go_wp2_with fail
        refine (of_len a k cap vs w8 (HR.out.below (HBW4.out.trans (HB48.out.mono (Nat.le_trans hzr hz4)))) HMV.out (by omega)).mono ?_
        rintro e w9 ⟨ao9, c9, rfl, hown9, hb9⟩
        have hb49 : Below w4.heap.size w4 w9 := HB48.out.trans (hb9.mono hz8)
        have hz9 := hb49.size
        have HB49 := Lib.hid hb49
        have HO9 := Lib.hid hown9
        have HO8' := Lib.hid ((RowN.of_own HO8.out).below hb9)
        clear hb49 hb9 hown9
        go_wp2_with fail
        refine (refSame_any ao8 ao9 k c8 c9 us vs w9 HO8'.out HUL.out (fun u hu => ⟨(HUOK.out u hu).1.below HB49.out, (HUOK.out u hu).2⟩) (RowN.of_own HO9.out) HMV.out (HOKS.out w9 (HBW4.out.trans (HB49.out.mono (Nat.le_trans hzr hz4)))) HSM.out (by omega)).mono ?_
        rintro e w10 ⟨rfl, hb10⟩
        have hb410 : Below w4.heap.size w4 w10 := HB49.out.trans (hb10.mono hz9)
        have hbw10 := HBW4.out.trans (hb410.mono (Nat.le_trans hzr hz4))
        have hz10 := hbw10.size
        have HB410 := Lib.hid hb410
        have HBW10 := Lib.hid hbw10
        clear hb10 hb410 hbw10
        cases L with
        | zero =>
          go_wp2_with fail
          go_ret
          exact ⟨rfl, HBW10.out⟩
        | succ K =>
          have hc34 := HO34.out.cap
          have i1 : (0 : Int) < ((K + 1 : Nat) : Int) := by omega
          have i2 : ((K + 1 : Nat) : Int) - 1 = (K : Int) := by omega
          have i3 : (K : Int) ≤ (c3 : Int) := by omega
          have i4 : (0 : Int) ≤ (K : Int) := by omega
          go_wp2_with fail
          have g3 : getV (vs.map Vl.kind) (bs.take K) = ([], 30) := G3.out (by omega)
          have G4 := Lib.hid g3
          have hrow : Row8 w10 ao3 K (bs.take K) := (Row8.take (HO34.out.row.below HB410.out) K (by omega))
          have HROWK := Lib.hid hrow
          clear g3 hrow
          refine (HGET.out w10 (HB4.out.trans (HB410.out.mono hz4)) ao3 K c3 (bs.take K) HROWK.out (by omega) hc34.2 HO34.out.nocap).mono ?_
          rw [G4.out]
          rintro e w11 ⟨us11, ao11, n11, c11, rfl, hpv11, hO11, hb11⟩
          have hbw11 := HBW10.out.trans (hb11.mono hz10)
          clear hpv11 hO11 hb11
          go_wp2_with fail
          go_ret
          exact ⟨rfl, hbw11⟩
  · have hbs := HNE.out hc
    have hl0 : L = 0 := by rw [HL.out, hbs]; rfl
    subst hl0
    have hci : ((c : Int) == 0) = false := by simp; omega
    go_wp2_with fail
    go_ret
    exact ⟨rfl, HB3.out⟩
end Go.Proofs.Ytdpajcamgipgkaa
