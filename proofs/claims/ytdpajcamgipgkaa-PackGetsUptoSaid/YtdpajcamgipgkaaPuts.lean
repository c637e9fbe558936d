/- PackPuts and PackJoins: the walks. -/
import Derived.Test.YtdpajcamgipgkaaOf
import Derived.Test.YtdpajcamgipgkaaFraming
namespace Go.Proofs.Ytdpajcamgipgkaa
open Go.RowKit

theorem putAll_pre (us : List Vl) : ∀ a b : List UInt8, putAll us (a ++ b) = if (putAll us b).2 = 0 then (a ++ (putAll us b).1, 0) else putAll us b := by
  induction us with
  | nil => intro a b; simp [putAll]
  | cons v r ih =>
    intro a b
    by_cases h : v.err = 0
    · rw [putAll_ok h, putAll_ok h, List.append_assoc, ih]
    · rw [putAll_no h, putAll_no h, if_neg h]
theorem putAll_nil_err (us : List Vl) : ∀ b : List UInt8, (putAll us b).2 ≠ 0 → (putAll us b).1 = [] := by
  induction us with
  | nil => intro b h; exact absurd rfl h
  | cons v r ih =>
    intro b h
    by_cases hv : v.err = 0
    · rw [putAll_ok hv] at h ⊢; exact ih _ h
    · rw [putAll_no hv]
theorem putAll_app (vs us : List Vl) : ∀ acc, putAll (vs ++ us) acc = if (putAll vs acc).2 = 0 then putAll us (putAll vs acc).1 else putAll vs acc := by
  induction vs with
  | nil => intro acc; simp [putAll]
  | cons v r ih =>
    intro acc
    rw [List.cons_append]
    by_cases hv : v.err = 0
    · rw [putAll_ok hv, putAll_ok hv, ih]
    · rw [putAll_no hv, putAll_no hv, if_neg hv]
theorem bulkV_app (vs us : List Vl) : bulkV (vs ++ us) = bulkV vs + bulkV us := by simp [bulkV]
theorem putAll_len (vs : List Vl) (h : ∀ v ∈ vs, v.s.bs.length = v.s.len) : ∀ acc, (putAll vs acc).1.length ≤ acc.length + 10 * bulkV vs := by
  induction vs with
  | nil => intro acc; simp [putAll]
  | cons v r ih =>
    intro acc
    rw [bulkV_cons]
    by_cases hv : v.err = 0
    · rw [putAll_ok hv]
      have h1 := ih (fun x hx => h x (List.mem_cons_of_mem _ hx)) (acc ++ v.bytes)
      have h2 := bytes_len v (h v (List.mem_cons_self ..))
      rw [List.length_append] at h1
      omega
    · rw [putAll_no hv]; simp

def exampleV : List Vl := [⟨1, 64, 0, ⟨none, 0, 0, []⟩, false⟩, ⟨4, 0, 0, ⟨none, 0, 0, []⟩, true⟩]
theorem exampleV_put : putAll exampleV [] = ([128, 1, 1], 0) := by decide

set_option maxRecDepth 100000 in
set_option maxHeartbeats 1600000 in
theorem putting_any (w : World) : Calls Try.prog 32 #[] w fun e w' => e = .returned (.bool true) ∧ Below w.heap.size w w' := by
  go_enter Try.func32, Try.ntmps32
  go_wp2_with fail
  refine (put_any (some ⟨w.heap.size, 0, none⟩) 2 2 exampleV _ (RowN.of_block (heap_alloc_new w _) rfl rfl) rfl (by
    intro v hv
    simp only [exampleV, List.mem_cons, List.not_mem_nil, or_false] at hv
    rcases hv with rfl | rfl <;> exact ⟨⟨Row8.nil _ _, Nat.le_refl _, by decide, fun _ => rfl⟩, by decide, by decide, by decide⟩) (by decide)).mono ?_
  rw [exampleV_put]
  rintro e w1 ⟨ao1, c1, rfl, hown1, hb1⟩
  replace hb1 : Below w.heap.size w w1 := ((Below.refl _ _).alloc (Nat.le_refl _) _).trans (hb1.mono (by rw [World.size_alloc]; omega))
  have hz1 := hb1.size
  go_wp2_with fail
  refine (same_any ao1 (some ⟨w1.heap.size, 0, none⟩) 3 3 c1 3 [128, 1, 1] [128, 1, 1] _ (hown1.row.alloc _) (Row8.new _ _ _ _ [128, 1, 1] 3 rfl rfl) (by decide) (by decide)).mono ?_
  rintro e w2 ⟨rfl, q, rfl⟩
  rw [decide_eq_true rfl]
  go_wp2
  go_ret
  exact ⟨rfl, below_drewN (hb1.alloc hz1 _) q⟩

set_option maxRecDepth 100000 in
set_option maxHeartbeats 1600000 in
theorem packPuts_walk (a : Option Addr) (len cap : Nat) (vs : List Vl) (w : World) (hr : RowN w a 5 len (vs.flatMap Vl.cells)) (hs : vs.length = len) (hok : ∀ v ∈ vs, Vl.ok w v) (_hlc : len ≤ cap) (_hcm : cap ≤ maxLen) (_hn : a = none → cap = 0) (hbulk : bulkV vs ≤ 1048576) :
    Calls Try.prog 9 #[.slice a len cap] w fun e w' => e = .returned (.bool true) ∧ Below w.heap.size w w' := by
  subst hs
  have hll := putAll_len vs (fun v hv => (hok v hv).1.1.1) []
  have hlb := bulkV_len vs
  have hput := fun w' (hb : Below w.heap.size w w') => put_any a vs.length cap vs w' (hr.below hb) rfl (fun v hv => ⟨(hok v hv).1.below hb, (hok v hv).2⟩) (by omega)
  have hof := fun w' (hb : Below w.heap.size w w') => of_any a vs.length cap vs w' (hr.below hb) rfl (by omega)
  have href := fun w' (hb : Below w.heap.size w w') a' cap' (h : RowN w' a' 5 vs.length (vs.flatMap Vl.cells)) => refPut_any a' vs.length cap' vs w' h rfl (fun v hv => ⟨(hok v hv).1.below hb, (hok v hv).2⟩) (by omega)
  obtain ⟨bs, c, hp⟩ : ∃ bs c, putAll vs [] = (bs, c) := ⟨_, _, rfl⟩
  rw [hp] at hput href hll
  simp only [List.length_nil] at hput href hll
  have HP := Lib.hid hput
  have HO := Lib.hid hof
  have HF := Lib.hid href
  clear hput hof href hr hok hp
  go_enter Try.func9, Try.ntmps9
  go_wp2_with fail
  refine (putting_any _).mono ?_
  rintro e w1 ⟨rfl, hb1⟩
  have hz1 := hb1.size
  go_wp2_with fail
  refine (HP.out _ hb1).mono ?_
  rintro e w2 ⟨ao2, c2, rfl, hown2, hb2⟩
  have hbw2 : Below w.heap.size w w2 := hb1.trans (hb2.mono hz1)
  have hz2 := hbw2.size
  go_wp2_with fail
  refine (HO.out _ hbw2).mono ?_
  rintro e w3 ⟨ao3, c3, rfl, hown3, hb3⟩
  have hbw3 : Below w.heap.size w w3 := hbw2.trans (hb3.mono hz2)
  have hz3 := hbw3.size
  go_wp2_with fail
  refine (HF.out _ hbw3 ao3 c3 (RowN.of_own hown3)).mono ?_
  rintro e w4 ⟨ao4, c4, rfl, hown4, hb4⟩
  have hbw4 : Below w.heap.size w w4 := hbw3.trans (hb4.mono hz3)
  have hown24 : Own8 w4 w1.heap.size ao2 bs.length c2 bs := (hown2.below hb3 (Nat.le_refl _)).below hb4 (Nat.le_refl _)
  go_wp2_with fail
  refine (same_any ao2 ao4 bs.length bs.length c2 c4 bs bs _ hown24.row hown4.row (by simp only [maxLen]; omega) (by simp only [maxLen]; omega)).mono ?_
  rintro e w5 ⟨rfl, q, rfl⟩
  rw [decide_eq_true rfl]
  go_wp2
  go_ret
  exact ⟨rfl, below_drewN hbw4 q⟩

/-- an append behind a guard that says yes -/
theorem wpList_append8_want {w : World} {ops : Array Oper} {rest : List Oper} {o : Oper} {a : Act} {Q : Exit → Act → World → Prop} (hw : Region.wanted o (yielded ops a.tmps) = true) (s x : Operand)
    (ho : o.op = .call { callee := .builtin .append, args := #[s, x], argTypes := #[22, 22] })
    (base : Nat) (ao : Option Addr) (n cap : Nat) (bs : List UInt8) (hs : a.eval s = .slice ao n cap) (hown : Own8 w base ao n cap bs)
    (ax : Option Addr) (m c : Nat) (xs : List UInt8) (hx : a.eval x = .slice ax m c) (hrow : Row8 w ax m xs) (hnil : ax = none → c = 0) (hbig : n + m ≤ 140737488355328) (hbase : base ≤ w.heap.size) (N : Nat) (hN : n + m = N)
    (h : ∀ ao' cap' w', Own8 w' base ao' N cap' (bs ++ xs) → w.grownBy w' (Value.ownBlock (.slice ao n cap)) →
      (Value.ownBlock (.slice ao' N cap') = Value.ownBlock (.slice ao n cap) ∨ Value.ownBlock (.slice ao' N cap') = some w.heap.size) → wpList Try.prog ops Q rest (a.put o.dst (.slice ao' N cap')) w') : wpList Try.prog ops Q (o :: rest) a w := by
  subst hN
  refine wpList_step fun K hK => ?_
  rw [if_pos hw]
  obtain ⟨i0, hi, hz0, hz1, hz2⟩ := info_parts info_byte
  obtain ⟨ao', cap', w', hr, h2, h3, h4⟩ := run_append_row (P := Try.prog) w base 22 o.type 5 i0 (.int .u8 0) 1 1 Try.underlying22 hi hz0 hz1 hz2 rfl (by decide) ao n cap (cells8 bs) hown ax m c (cells8 xs) (by rw [cells8_length, hrow.1]; omega) hrow.news hnil (cells8_one _) (by simp only [maxLen]; omega) (by omega) hbase
  rw [← cells8_append] at h2
  unfold Oper.wp execOp
  simp only [ho, resolve, invoke, builtin, Sem.run_bind, Sem.run_pure, Result.andThen_ok, List.map_toArray, List.map_cons, List.map_nil, hs, hx, hr]
  exact hK _ _ (h ao' cap' w' h2 h3 h4)

theorem join_law {vs us : List Vl} {bs cs : List UInt8} {c d : Nat} (h1 : putAll vs [] = (bs, c)) (h2 : putAll us [] = (cs, d)) :
    (c ≠ 0 → putAll (vs ++ us) [] = ([], c)) ∧ (c = 0 → d ≠ 0 → putAll (vs ++ us) [] = ([], d)) ∧ (c = 0 → d = 0 → putAll (vs ++ us) [] = (bs ++ cs, 0)) := by
  have e := putAll_app vs us []
  rw [h1] at e
  refine ⟨fun hc => ?_, fun hc hd => ?_, fun hc hd => ?_⟩
  · rw [if_neg hc] at e
    have := putAll_nil_err vs [] (by rw [h1]; exact hc)
    rw [h1] at this
    rw [e, ← this]
  · subst hc
    have e2 := putAll_pre us bs []
    rw [List.append_nil, h2, if_neg hd] at e2
    have := putAll_nil_err us [] (by rw [h2]; exact hd)
    rw [h2] at this
    rw [e, if_pos rfl, e2, ← this]
  · subst hc hd
    have e2 := putAll_pre us bs []
    rw [List.append_nil, h2, if_pos rfl] at e2
    rw [e, if_pos rfl, e2]

set_option maxRecDepth 100000 in
set_option maxHeartbeats 3200000 in
theorem packJoins_walk (a : Option Addr) (len cap : Nat) (vs : List Vl) (b : Option Addr) (len' cap' : Nat) (us : List Vl) (w : World) (hr : RowN w a 5 len (vs.flatMap Vl.cells)) (hs : vs.length = len) (hok : ∀ v ∈ vs, Vl.ok w v) (_hlc : len ≤ cap) (_hcm : cap ≤ maxLen) (hn : a = none → cap = 0)
    (hr' : RowN w b 5 len' (us.flatMap Vl.cells)) (hs' : us.length = len') (hok' : ∀ v ∈ us, Vl.ok w v) (_hlc' : len' ≤ cap') (_hcm' : cap' ≤ maxLen) (hn' : b = none → cap' = 0) (hbulk : bulkV vs + bulkV us ≤ 1048576) :
    Calls Try.prog 10 #[.slice a len cap, .slice b len' cap'] w fun e w' => e = .returned (.bool true) ∧ Below w.heap.size w w' := by
  subst hs hs'
  have hll := putAll_len vs (fun v hv => (hok v hv).1.1.1) []
  have hll' := putAll_len us (fun v hv => (hok' v hv).1.1.1) []
  have hlb := bulkV_len vs
  have hlb' := bulkV_len us
  have hput := fun w' (hb : Below w.heap.size w w') => put_any a vs.length cap vs w' (hr.below hb) rfl (fun v hv => ⟨(hok v hv).1.below hb, (hok v hv).2⟩) (by omega)
  have hput' := fun w' (hb : Below w.heap.size w w') => put_any b us.length cap' us w' (hr'.below hb) rfl (fun v hv => ⟨(hok' v hv).1.below hb, (hok' v hv).2⟩) (by omega)
  have hputj := fun w' (hb : Below w.heap.size w w') n a' cap' (hn : (vs ++ us).length = n) (h : RowN w' a' 5 n ((vs ++ us).flatMap Vl.cells)) => put_any a' n cap' (vs ++ us) w' h hn (fun v hv => by
    rcases List.mem_append.1 hv with hv | hv
    · exact ⟨(hok v hv).1.below hb, (hok v hv).2⟩
    · exact ⟨(hok' v hv).1.below hb, (hok' v hv).2⟩) (by rw [bulkV_app]; omega)
  obtain ⟨bs, c, hp⟩ : ∃ bs c, putAll vs [] = (bs, c) := ⟨_, _, rfl⟩
  obtain ⟨cs, d, hp'⟩ : ∃ cs d, putAll us [] = (cs, d) := ⟨_, _, rfl⟩
  have hjl := join_law hp hp'
  rw [hp] at hput hll
  rw [hp'] at hput' hll'
  simp only [List.length_nil] at hput hput' hll hll'
  obtain ⟨m1, hm1⟩ : ∃ m1, m1 = vs.length := ⟨_, rfl⟩
  obtain ⟨m2, hm2⟩ : ∃ m2, m2 = us.length := ⟨_, rfl⟩
  have hml : (vs ++ us).length = m1 + m2 := by rw [List.length_append]; omega
  rw [← hm1] at hput hr hlb ⊢
  rw [← hm2] at hput' hr' hlb' ⊢
  have HML := Lib.hid hml
  have HR := Lib.hid hr
  have HR' := Lib.hid hr'
  have HN := Lib.hid hn
  have HN' := Lib.hid hn'
  have HP := Lib.hid hput
  have HP' := Lib.hid hput'
  have HJ := Lib.hid hputj
  have HL := Lib.hid hjl
  clear hput hput' hputj hjl hp hp' hm1 hm2 hr hr' hok hok' hml hn hn'
  go_enter Try.func10, Try.ntmps10
  go_wp2_with fail
  refine (putting_any _).mono ?_
  rintro e w1 ⟨rfl, hb1⟩
  have hz1 := hb1.size
  go_wp2_with fail
  refine (HP.out _ hb1).mono ?_
  rintro e w2 ⟨ao2, c2, rfl, hown2, hb2⟩
  have hbw2 : Below w.heap.size w w2 := hb1.trans (hb2.mono hz1)
  have hz2 := hbw2.size
  go_wp2_with fail
  refine (HP'.out _ hbw2).mono ?_
  rintro e w3 ⟨ao3, c3, rfl, hown3, hb3⟩
  have hbw3 : Below w.heap.size w w3 := hbw2.trans (hb3.mono hz2)
  have hz3 := hbw3.size
  have hown0 : (w3.alloc (.cells #[] 63)).ownsRow w.heap.size 63 5 (.slice (some ⟨w3.heap.size, 0, none⟩) 0 0) 0 [] := World.ownsRow_lit w3 #[] 0 hz3 (by decide) rfl
  have HOWN0 := Lib.hid hown0
  clear hown0
  go_wp2_with (first
    | (at_builtin; refine wpList_appendVal rfl (.tmp 24) (.tmp 25) rfl w.heap.size (some ⟨w3.heap.size, 0, none⟩) 0 0 [] rfl HOWN0.out a m1 cap (vs.flatMap Vl.cells) rfl ((HR.out.below hbw3).alloc _) HN.out (cells_all5 _) (by omega) (by rw [World.size_alloc]; omega) m1 (by omega) ?_; intro a4 c4 w4 hown4 hg4 hat4)
    | (at_builtin; refine wpList_appendVal rfl (.tmp 26) (.tmp 27) rfl w.heap.size a4 m1 c4 (vs.flatMap Vl.cells) rfl hown4 b m2 cap' (us.flatMap Vl.cells) rfl (HR'.out.below ((hbw3.alloc hz3 _).grown hg4 (by rw [World.size_alloc]; omega) (fun g hg => (World.ownsRow.lt HOWN0.out g hg).1))) HN'.out (cells_all5 _) (by omega) (by have := hg4.size; rw [World.size_alloc] at this; omega) (m1 + m2) (by omega) ?_; intro a5 c5 w5 hown5 hg5 hat5))
  have hbw4 := (hbw3.alloc hz3 (.cells #[] 63)).grown hg4 (by rw [World.size_alloc]; omega) (fun g hg => (World.ownsRow.lt HOWN0.out g hg).1)
  have hz4 := hbw4.size
  have hbw5 := hbw4.grown hg5 hz4 (fun g hg => (World.ownsRow.lt hown4 g hg).1)
  have hz5 := hbw5.size
  -- the first two results lie below what was made since
  have hb45 : Below w3.heap.size w3 w5 := (((Below.refl _ _).alloc (Nat.le_refl _) _).grown hg4 (by rw [World.size_alloc]; omega) (fun g hg => by simp [Value.ownBlock] at hg; omega)).grown hg5 (by have := hg4.size; rw [World.size_alloc] at this; omega) (fun g hg => by
    rcases hat4 with h | h
    · rw [h] at hg; simp [Value.ownBlock] at hg; omega
    · rw [h] at hg; injection hg with hg; rw [World.size_alloc] at hg; omega)
  have hown2' := (hown2.below hb3 (Nat.le_refl _)).below hb45 (Nat.le_refl _)
  have hown3' := hown3.below hb45 (Nat.le_refl _)
  have hrow5 : RowN w5 a5 5 (m1 + m2) ((vs ++ us).flatMap Vl.cells) := by
    have h := RowN.of_own hown5
    rw [List.flatMap_append]
    exact h
  have HROW5 := Lib.hid hrow5
  clear hrow5 hown5 hown4 hat5
  refine (HJ.out _ hbw5 _ a5 c5 HML.out HROW5.out).mono ?_
  rintro e w6 ⟨ao6, c6, rfl, hown6, hb6⟩
  have hbw6 : Below w.heap.size w w6 := hbw5.trans (hb6.mono hz5)
  have hz6 := hbw6.size
  have hown2'' := hown2'.below hb6 (Nat.le_refl _)
  have hown3'' := hown3'.below hb6 (Nat.le_refl _)
  clear hown2 hown3 hown2' hown3' HROW5 HOWN0
  by_cases hc : c = 0
  · by_cases hd : d = 0
    · subst hc hd
      have h3 := HL.out.2.2 rfl rfl
      rw [h3] at hown6 ⊢
      simp only at hown6 ⊢
      obtain ⟨n1, hn1⟩ : ∃ n, n = bs.length := ⟨_, rfl⟩
      obtain ⟨n2, hn2⟩ : ∃ n, n = cs.length := ⟨_, rfl⟩
      obtain ⟨n3, hn3⟩ : ∃ n, n = (bs ++ cs).length := ⟨_, rfl⟩
      have hn123 : n1 + n2 = n3 := by rw [hn1, hn2, hn3, List.length_append]
      rw [← hn1] at hown2'' hll ⊢
      rw [← hn2] at hown3'' hll' ⊢
      rw [← hn3] at hown6 ⊢
      clear hn1 hn2 hn3 HP HP' HJ HL h3 hlb hlb'
      have HO2 := Lib.hid hown2''
      have HO3 := Lib.hid hown3''
      have HO6 := Lib.hid hown6
      clear hown2'' hown3'' hown6
      have hown7 : Own8 (w6.alloc (.cells #[] 5)) w6.heap.size (some ⟨w6.heap.size, 0, none⟩) 0 0 [] := Own8.made w6 _ _ [] 0 (Nat.le_refl _) (by decide) rfl rfl
      have HO7 := Lib.hid hown7
      clear hown7
      go_wp2_with (first
        | (at_builtin; refine wpList_append8_want rfl (.tmp 58) (.tmp 59) rfl w6.heap.size (some ⟨w6.heap.size, 0, none⟩) 0 0 [] rfl HO7.out ao2 n1 c2 bs rfl (HO2.out.row.alloc _) HO2.out.nocap (by omega) (by rw [World.size_alloc]; omega) n1 (by omega) ?_; intro a8 c8 w8 hown8 hg8 hat8)
        | (at_builtin; refine wpList_append8_want rfl (.tmp 60) (.tmp 61) rfl w6.heap.size a8 n1 c8 bs rfl hown8 ao3 n2 c3 cs rfl (HO3.out.row.below (((Below.refl _ _).alloc (Nat.le_refl _) _).grown hg8 (by rw [World.size_alloc]; omega) (fun g hg => by simp [Value.ownBlock] at hg; omega))) HO3.out.nocap (by omega) (by have := hg8.size; rw [World.size_alloc] at this; omega) n3 hn123 ?_; intro a9 c9 w9 hown9 hg9 hat9))
      have hb8 : Below w6.heap.size w6 w8 := ((Below.refl _ _).alloc (Nat.le_refl _) _).grown hg8 (by rw [World.size_alloc]; omega) (fun g hg => by simp [Value.ownBlock] at hg; omega)
      have hb9 : Below w6.heap.size w6 w9 := hb8.grown hg9 hb8.size (fun g hg => (hown8.block g hg).1)
      have hown69 := HO6.out.below hb9 (Nat.le_refl _)
      refine (same_any ao6 a9 n3 n3 c6 c9 (bs ++ cs) (bs ++ cs) _ hown69.row hown9.row (by simp only [maxLen]; omega) (by simp only [maxLen]; omega)).mono ?_
      rintro e w10 ⟨rfl, q, rfl⟩
      rw [decide_eq_true rfl]
      go_wp2
      go_ret
      exact ⟨rfl, below_drewN (hbw6.trans (hb9.mono hz6)) q⟩
    · subst hc
      have h3 := HL.out.2.1 rfl hd
      rw [h3] at hown6 ⊢
      have hd0 : ((d : Int) == 0) = false := by simp; omega
      have hd1 : ((d : Int) != 0) = true := by simp; omega
      simp only [List.length_nil] at hown6 ⊢
      go_wp2_with fail
      go_ret
      exact ⟨rfl, hbw6⟩
  · have h3 := HL.out.1 hc
    rw [h3] at hown6 ⊢
    have hd1 : ((c : Int) != 0) = true := by simp; omega
    simp only [List.length_nil] at hown6 ⊢
    go_wp2_with fail
    go_ret
    exact ⟨rfl, hbw6⟩
end Go.Proofs.Ytdpajcamgipgkaa
