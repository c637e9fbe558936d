/- conf.Quorum, where all voters are among them; letters, plain. -/
import Derived.Test.YtcejamblndilbaaWl4
import Derived.Test.YtcejamblndilbaaAl2
import Derived.Test.YtcejamblndilbaaDoc6
import Derived.Deep.CutRange
import Derived.Deep.CutBlock
import Derived.Deep.RegionHeld3
namespace Go.Proofs.Ytcejamblndilbaa
open Go.RowKit

set_option maxRecDepth 100000 in
set_option maxHeartbeats 3200000 in
theorem quorum_all (c : Cf) (a : Option Addr) (n cap : Nat) (ws : List Int) (w : World) (hc : c.ok w) (hr : RowN w a 1 n (cellsZ ws)) (hsub : ∀ z ∈ c.v.zs, z ∈ ws) (hpos : 0 < c.v.len) (hl : c.v.len ≤ 1000000 ∧ n ≤ 1000000) :
    Calls Try.prog 26 #[.agg #[.slice c.v.a c.v.len c.v.cap, .slice c.l.a c.l.len c.l.cap], .slice a n cap] w (RetBox w (.bool true)) := by
  obtain ⟨⟨va, m, vcap, vz⟩, lc⟩ := c
  simp only at hsub hpos hl ⊢
  obtain ⟨b, off, hva, -⟩ := hc.1.1.2 hpos
  simp only at hva
  subst hva
  obtain ⟨X, hX⟩ : ∃ X, X = w.alloc (.cells #[.slice (some ⟨b, off, none⟩) m vcap, .slice lc.a lc.len lc.cap] 26) := ⟨_, rfl⟩
  have hXb : Below w.heap.size w X := hX ▸ below_alloc (Below.refl _ _) _
  have hXc : X.heap[w.heap.size]? = some (.cells #[.slice (some ⟨b, off, none⟩) m vcap, .slice lc.a lc.len lc.cap] 26 (0, 0)) := hX ▸ heap_alloc_new w _
  have hcell : ∀ Z, Below X.heap.size X Z → Z.cell? ⟨w.heap.size, 0, none⟩ = some (.slice (some ⟨b, off, none⟩) m vcap) := fun Z hZ => (two_cells ((hZ.block _ (lt_of_block hXc)).trans hXc)).1
  have HV := Lib.hid (hc.below hXb).1.1
  have HR := Lib.hid (hr.below hXb)
  have HX := Lib.hid hX
  have HXB := Lib.hid hXb
  have HCELL := Lib.hid hcell
  have HSUB := Lib.hid hsub
  have hxc := hcell X (Below.refl _ _)
  obtain ⟨hl1, hl2⟩ := hl
  clear hX hXb hXc hcell hc hr hsub
  go_enter Try.func26, Try.ntmps26
  go_upto_region 1 with fail
  rw [← HX.out]
  go_wp2_with fail
  clear hxc
  go_loopw [5, 11] (fun nv iv wr => ∃ k : Nat, k ≤ m ∧ nv = .int .i64 k ∧ iv = .int .i64 k ∧ Hid (Below X.heap.size X wr)) (fun _ iv _ => m - (intOf iv).toNat)
  case atStart => exact ⟨0, by omega, rfl, rfl, Below.refl _ _⟩
  case round =>
    obtain ⟨k, hk, rfl, rfl, HB⟩ := hrel
    have hcl := HCELL.out _ HB.out
    by_cases hlt : k < m
    · obtain ⟨b', off', z, he, hz, hcz⟩ := cellZ_at (HV.out.below HB.out) k hlt
      injection he with he
      injection he with he1 he2 _
      subst he1 he2
      have hcn := contains_any a n cap ws z wr (HR.out.below HB.out) (by omega)
      rw [decide_eq_true (HSUB.out z (List.mem_of_getElem? hz))] at hcn
      have HCN := Lib.hid hcn
      have hkl : (k : Int) < (m : Int) := by omega
      clear hcn hz
      go_wp2_with fail
      refine HCN.out.mono ?_
      rintro e w2 ⟨rfl, q, rfl⟩
      go_wp2_with fail
      go_roundw
      case rel => exact ⟨k + 1, by omega, by go_num, by go_num, below_drewN HB.out q⟩
      case measure => simp [intOf]; omega
    · have hke : k = m := by omega
      subst hke
      have hq : (k : Int) / 2 < (k : Int) := by omega
      go_wp2_with fail
      go_ret
      exact ⟨by first | rfl | (simp; omega), below_then HXB.out HB.out⟩

end Go.Proofs.Ytcejamblndilbaa
namespace Go.Proofs.Ytcejamblndilbaa
open Go.RowKit

/-- the letter that carries entries -/
def letM (top q tq : Int) (ea : Option Addr) (en ecap : Nat) (es : List En) : Ms := ⟨5, 1, 2, top, q, tq, 0, false, ea, en, ecap, es, 0, ⟨none, 0, 0, []⟩, false, ⟨⟨none, 0, 0, []⟩, ⟨none, 0, 0, []⟩⟩⟩
def letP (top q tq : Int) (es : List Pe) : Pm := ⟨5, 1, 2, top, q, tq, 0, false, es, 0, [], false, [], []⟩
theorem plain_says {es fs : List En} (h : es.map En.says = fs.map En.says) : es.map En.plain = fs.map En.plain := by
  have e : ∀ es : List En, es.map En.plain = (es.map En.says).map fun p => (⟨p.1, p.2.1, p.2.2.1, p.2.2.2⟩ : Pe) := fun es => by rw [List.map_map]; rfl
  rw [e, e, h]
theorem says_plain {es fs : List En} (h : es.map En.plain = fs.map En.plain) : es.map En.says = fs.map En.says := by
  have e : ∀ es : List En, es.map En.says = (es.map En.plain).map fun p => (p.ix, p.tm, p.kd, p.bs) := fun es => by rw [List.map_map]; rfl
  rw [e, e, h]

/-- entries that follow an index, whose terms rise up to a top -/
theorem let_ents {top : Int} : ∀ (us : List En) (i t : Int), 0 ≤ i → (∀ (k : Nat) u, us[k]? = some u → u.ix = i + 1 + k) → (∀ u ∈ us, rightE u.ix u.tm u.kd u.s.bs = true) → Rise t us → (∀ u ∈ us, u.tm ≤ top) → mEntsP top i t (us.map En.plain) = true
  | [], _, _, _, _, _, _, _ => rfl
  | u :: r, i, t, h0, hi, hr, hs, ht => by
    have h1 := hi 0 u rfl
    have h2 := rightE_iff.1 (hr u (List.mem_cons_self ..))
    have h3 := ht u (List.mem_cons_self ..)
    have hw : wrap64 (i + 1) = i + 1 := by unfold wrap64; omega
    rw [List.map_cons, mEntsP, if_neg (by
      simp only [En.plain, hw]
      have := hs.1
      omega)]
    exact let_ents r u.ix u.tm (by omega) (fun k v hk => by have := hi (k + 1) v (by simpa using hk); omega) (fun v hv => hr v (List.mem_cons_of_mem _ hv)) hs.2 (fun v hv => ht v (List.mem_cons_of_mem _ hv))

/-- what a log's entries keep to -/
structure Good (es : List En) : Prop where
  snd : Sound 0 0 es
  all : AllR es
  ris : Rise 0 es
theorem Good.nil : Good [] := ⟨⟨by omega, by omega, fun k e h => by simp at h⟩, (fun e h => by cases h), trivial⟩
theorem tm_last : ∀ (es : List En) (t : Int), Rise t es → ∀ u ∈ es, u.tm ≤ tAt t es es.length
  | [], _, _, u, h => by cases h
  | a :: r, t, hr, u, h => by
    rw [List.length_cons, tAt_cons]
    rcases List.mem_cons.1 h with rfl | h
    · have : ∀ (l : List En) (x : Int), Rise x l → x ≤ tAt x l l.length := by
        intro l
        induction l with
        | nil => intro x _; exact Int.le_refl _
        | cons b l ih =>
          intro x hx
          rw [List.length_cons, tAt_cons]
          have := ih b.tm hx.2
          have := hx.1
          omega
      exact this r _ hr.2
    · exact tm_last r _ hr.2 u h
theorem Good.top {es : List En} (h : Good es) : 0 ≤ tAt 0 es es.length ∧ tAt 0 es es.length ≤ 1099511627776 := by
  cases hl : es.length with
  | zero => simp [tAt]
  | succ m =>
    obtain ⟨e, he⟩ : ∃ e, es[m]? = some e := ⟨_, List.getElem?_eq_getElem (by omega)⟩
    rw [tAt_succ he]
    have := rightE_iff.1 (h.all e (List.mem_of_getElem? he))
    omega
theorem Good.at {es : List En} (h : Good es) (q : Nat) (hq : q ≤ es.length) : 0 ≤ tAt 0 es q ∧ tAt 0 es q ≤ 1099511627776 := by
  cases q with
  | zero => simp [tAt]
  | succ m =>
    obtain ⟨e, he⟩ : ∃ e, es[m]? = some e := ⟨_, List.getElem?_eq_getElem (by omega)⟩
    rw [tAt_succ he]
    have := rightE_iff.1 (h.all e (List.mem_of_getElem? he))
    omega
/-- a letter out of a log is right -/
theorem let_right {es us : List En} (h : Good es) {q k : Nat} (hq : q ≤ es.length) (hl : es.length ≤ 60) (hk : k ≤ 8) (hs : us.map En.says = ((es.drop q).take k).map En.says) :
    rightP (letP (max (tAt 0 es es.length) 1) q (tAt 0 es q) (us.map En.plain)) = true := by
  rw [plain_says hs]
  have htop := h.top
  have hqt := h.at q hq
  have hlen : ((es.drop q).take k).length ≤ 8 := by rw [List.length_take]; omega
  have hents : mEntsP (max (tAt 0 es es.length) 1) q (tAt 0 es q) (((es.drop q).take k).map En.plain) = true := by
    refine let_ents _ _ _ (by omega) (fun j u hj => ?_) (fun u hu => h.all u (List.mem_of_mem_drop (List.mem_of_mem_take hu))) ((Rise.drop q hq h.ris).take k) (fun u hu => ?_)
    · rw [List.getElem?_take] at hj
      split at hj
      · rw [List.getElem?_drop] at hj
        have := h.snd.idx _ u hj
        omega
      · cases hj
    · have := tm_last es 0 h.ris u (List.mem_of_mem_drop (List.mem_of_mem_take hu))
      omega
  unfold rightP letP partsP
  simp only [namesOf, part3, numberOf, hents]
  simp
  omega
/-- a letter with one entry is no longer than may be -/
theorem let_short (top q tq : Int) (e : Pe) (h : e.bs.length ≤ 2048) : (encP (letP top q tq [e])).length ≤ 4096 := by
  unfold encP ecNum ecNum2 ecNum3 ecOk ecEnts ecEs ecOff ecData ecLast ecConf
  have hp : (letP top q tq [e]).p = ⟨true, true, true, false, true, false, false, false, false⟩ := rfl
  rw [hp]
  simp only [ifB, if_true, Bool.false_eq_true, if_false, List.length_append, List.append_nil, List.length_nil, letP, List.flatMap_cons, List.flatMap_nil, entB, lenB]
  have a1 := numBytes_len 5
  have a2 := numBytes_len 1
  have a3 := numBytes_len 2
  have a4 := numBytes_len top
  have a5 := numBytes_len q
  have a6 := numBytes_len tq
  have a7 := numBytes_len 0
  have a8 := numBytes_len (([e] : List Pe).length : Nat)
  have a9 := numBytes_len e.tm
  have b1 := numBytes_len e.kd
  have b2 := numBytes_len (e.bs.length : Nat)
  omega
/-- entries that follow are taken -/
theorem append_ok : ∀ (us : List En) (i t : Int), (∀ (k : Nat) u, us[k]? = some u → u.ix = i + 1 + k) → (∀ u ∈ us, rightE u.ix u.tm u.kd u.s.bs = true) → Rise t us → appendOf i t us = 0
  | [], _, _, _, _, _ => rfl
  | u :: r, i, t, hi, hr, hs => by
    have h1 := hi 0 u rfl
    have h3 := hs.1
    rw [appendOf, hr u (List.mem_cons_self ..), if_neg (by simp), if_neg (by omega), if_neg (by omega)]
    exact append_ok r u.ix u.tm (fun k v hk => by have := hi (k + 1) v (by simpa using hk); omega) (fun v hv => hr v (List.mem_cons_of_mem _ hv)) hs.2
theorem let_append {es us : List En} (h : Good es) {q k : Nat} (hq : q ≤ es.length) (hs : us.map En.says = ((es.drop q).take k).map En.says) : appendOf q (tAt 0 es q) us = 0 := by
  have hr := ((Rise.drop q hq h.ris).take k).says hs
  refine append_ok us _ _ (fun j u hj => ?_) (fun u hu => ?_) hr
  · obtain ⟨v, hv, he⟩ := says_at hs j u hj
    have hix : u.ix = v.ix := congrArg Prod.fst he
    rw [List.getElem?_take] at hv
    split at hv
    · rw [List.getElem?_drop] at hv
      have := h.snd.idx _ v hv
      omega
    · cases hv
  · obtain ⟨j, hj⟩ := List.getElem?_of_mem hu
    obtain ⟨v, hv, he⟩ := says_at hs j u hj
    have hvr := h.all v (List.mem_of_mem_drop (List.mem_of_mem_take (List.mem_of_getElem? hv)))
    have e1 : u.ix = v.ix := congrArg Prod.fst he
    have e2 : u.tm = v.tm := congrArg (fun p => p.2.1) he
    have e3 : u.kd = v.kd := congrArg (fun p => p.2.2.1) he
    have e4 : u.s.bs = v.s.bs := congrArg (fun p => p.2.2.2) he
    rw [e1, e2, e3, e4]; exact hvr
/-- the last of a beginning -/
theorem last_take {es fs : List En} (h : Good es) {q : Nat} (hq : q ≤ es.length) (hs : fs.map En.says = (es.take q).map En.says) : lastOf 0 0 fs = ((q : Int), tAt 0 es q) := by
  rw [last_says hs]
  have hst := h.snd.take q
  have h1 := hst.last
  have h2 := last_tm 0 0 (es.take q)
  have hl : (es.take q).length = q := by rw [List.length_take]; omega
  rw [hl] at h1 h2
  have h3 : tAt 0 (es.take q) q = tAt 0 es q := by
    cases q with
    | zero => rfl
    | succ m =>
      obtain ⟨e, he⟩ : ∃ e, es[m]? = some e := ⟨_, List.getElem?_eq_getElem (by omega)⟩
      rw [tAt_succ he, tAt_succ (e := e) (by rw [List.getElem?_take, if_pos (by omega)]; exact he)]
  rw [h3] at h2
  exact Prod.ext (by rw [h1]; omega) h2
theorem take_more {es fs us : List En} {q k : Nat} (h1 : fs.map En.says = (es.take q).map En.says) (h2 : us.map En.says = ((es.drop q).take k).map En.says) : (fs ++ us).map En.says = (es.take (q + k)).map En.says := by
  rw [List.map_append, h1, h2, ← List.map_append, List.take_add]
theorem Good.more {es us vs : List En} (h : Good es) (h0 : appendOf (lastOf 0 0 es).1 (lastOf 0 0 es).2 us = 0) (hs : vs.map En.says = us.map En.says) : Good (es ++ vs) :=
  ⟨h.snd.append h0 hs, h.all.append h0 hs, h.ris.more h0 hs⟩
theorem Good.take {es fs : List En} (h : Good es) {q : Nat} (hs : fs.map En.says = (es.take q).map En.says) : Good fs :=
  ⟨(h.snd.take q).says hs, (h.all.take q).says hs, (h.ris.take q).says hs⟩
/-- the configuration of a log has voters -/
theorem conf_pos (es : List En) (h : AllR es) (cf : List Int × List Int) (hcf : 0 < cf.1.length) (i : Int) : 0 < (confAtOf 0 cf es i).1.1.length := by
  unfold confAtOf
  cases hf : es.reverse.find? (gives i) with
  | none => exact hcf
  | some e =>
    have hm : e ∈ es := List.mem_reverse.1 (List.mem_of_find?_eq_some hf)
    have hg := List.find?_some hf
    have hr := rightE_iff.1 (h e hm)
    simp only [gives, Bool.and_eq_true, decide_eq_true_eq] at hg
    have hl : (loadOf e.s.bs).isSome = true := by
      rcases hr.1 with h1 | h1
      · exact absurd hg.1 h1
      · exact h1
    obtain ⟨p, hp⟩ := Option.isSome_iff_exists.1 hl
    show 0 < ((loadOf e.s.bs).getD ([], [])).1.length
    rw [hp]
    obtain ⟨v, l⟩ := p
    exact (confRight_facts (loadOf_right hp)).2.2
end Go.Proofs.Ytcejamblndilbaa
namespace Go.Proofs.Ytcejamblndilbaa
open Go.RowKit

theorem let_built0 (g : Nat) : Try.prog.built 28 [(0, .int .i64 5), (1, .int .i64 1), (2, .int .i64 2), (3, .int .i64 1), (8, .slice (some ⟨g, 0, none⟩) 1 1)] = some (letM 1 0 0 (some ⟨g, 0, none⟩) 1 1 [⟨1, 1, 0, ⟨none, 0, 0, []⟩⟩]).cs := by kernel_rfl
def let0 : List En := [⟨1, 1, 0, ⟨none, 0, 0, []⟩⟩]
theorem MOwn.enAt {w : World} {B N : Nat} {ae : Option Addr} {m : Ms} (h : MOwn w B m) (hN : ∀ b, B ≤ b → b < w.heap.size → Off N ae b) : EnAt w (Off N ae) m.es m.ea m.en := by
  refine ⟨h.len, RowN.of_own h.row, fun u hu => ⟨Own8.sl (h.ents u hu), fun b off e hn => ?_⟩, fun b off e hn => ?_⟩
  · obtain ⟨g, hg, h1, h2⟩ := (h.ents u hu).addr hn
    rw [hg] at e
    injection e with e
    injection e with e _ _
    subst e
    exact hN _ h1 h2
  · have := h.row.lt b (by rw [e]; rfl)
    exact hN _ this.1 this.2
theorem let_ok {w : World} {top q tq : Int} {ea : Option Addr} {en ecap : Nat} {es : List En} (hr : RowN w ea 4 en (es.flatMap En.cells)) (hl : es.length = en) (ho : ∀ e ∈ es, Sl.ok w e.s) (hc : en ≤ ecap ∧ ecap ≤ maxLen) : MsOk w (letM top q tq ea en ecap es) :=
  ⟨hr, hl, ho, hc, Own8.sl (Own8.nil _ _ : Own8 w 0 none 0 0 []), ⟨RowN.nil _ _ _, fun _ => ⟨rfl, rfl⟩⟩, ⟨RowN.nil _ _ _, fun _ => ⟨rfl, rfl⟩⟩⟩
theorem let_len (top q tq : Int) (ea : Option Addr) (en ecap : Nat) (es : List En) : CLen (letM top q tq ea en ecap es) := ⟨Nat.zero_le _, Nat.zero_le _⟩
theorem let_plain (top q tq : Int) (ea : Option Addr) (en ecap : Nat) (es : List En) : (letM top q tq ea en ecap es).plain = letP top q tq (es.map En.plain) := rfl
/-- a letter that is right and short is encoded, and that is decoded -/
theorem let_enc {w : World} {m : Ms} (hm : MsOk w m) (hr : rightP m.plain = true) (hs : (encP m.plain).length ≤ 4096) : encOf m = (Fr.frame (encP m.plain), 0) ∧ decP (Fr.frame (encP m.plain)) = some m.plain := by
  refine ⟨?_, decP_frame hr hs⟩
  rw [encOf_plain hm, hr, if_pos rfl, framed_yes hs]
theorem let_long {w : World} {m : Ms} (hm : MsOk w m) (hr : rightP m.plain = true) (hs : ¬ (encP m.plain).length ≤ 4096) : encOf m = ([], 2) := by
  rw [encOf_plain hm, hr, if_pos rfl, framed_no hs]

theorem let0_right : rightP (letP 1 0 0 (let0.map En.plain)) = true := by
  simp [rightP, letP, partsP, namesOf, part3, numberOf, mEntsP, let0, En.plain, wrap64]

set_option maxRecDepth 100000 in
set_option maxHeartbeats 16000000 in
theorem soundLog_any (w : World) : Calls Try.prog 19 #[] w (RetBox w (.bool true)) := by
  obtain ⟨X, hX⟩ : ∃ X, X = (w.alloc (.cells #[.int .i64 1, .int .i64 2] 3)).alloc (.cells #[.slice (some ⟨w.heap.size, 0, none⟩) 2 2, .slice none 0 0] 26) := ⟨_, rfl⟩
  have hXb : Below w.heap.size w X := hX ▸ below_alloc (below_alloc (Below.refl _ _) _) _
  have hXs : X.heap.size = w.heap.size + 2 := by rw [hX, World.size_alloc, World.size_alloc]
  have hXa : X.heap[w.heap.size]? = some (.cells #[.int .i64 1, .int .i64 2] 3 (0, 0)) := hX ▸ alloc_far (heap_alloc_new w _) (by simp)
  have hXc : X.heap[w.heap.size + 1]? = some (.cells #[.slice (some ⟨w.heap.size, 0, none⟩) 2 2, .slice none 0 0] 26 (0, 0)) := by have := heap_alloc_new (w.alloc (.cells #[.int .i64 1, .int .i64 2] 3)) (.cells #[.slice (some ⟨w.heap.size, 0, none⟩) 2 2, .slice none 0 0] 26); rw [World.size_alloc] at this; rw [hX]; exact this
  have hcok : Cf.ok X ⟨⟨some ⟨w.heap.size, 0, none⟩, 2, 2, [1, 2]⟩, ⟨none, 0, 0, []⟩⟩ := ⟨⟨RowN.of_block hXa rfl rfl, fun h => by cases h⟩, ⟨RowN.nil _ _ _, fun _ => ⟨rfl, rfl⟩⟩⟩
  obtain ⟨x0, x1, -, -⟩ := two_cells hXc
  have hnew := rnew_any 0 0 _ X hcok (show 2 ≤ 1000000000000 ∧ 0 ≤ 1000000000000 by decide)
  have HX := Lib.hid hX
  have HXB := Lib.hid hXb
  have HXS := Lib.hid hXs
  have HXC := Lib.hid hXc
  have HOK := Lib.hid hcok
  have HNEW := Lib.hid hnew
  clear hX hXb hXs hXa hXc hcok hnew
  go_enter Try.func19, Try.ntmps19
  go_upto_region 2 with fail
  rw [← HX.out]
  go_wp2_with fail
  refine HNEW.out.mono ?_
  rintro e w2 ⟨N, c1, rfl, hL2, hs1, hb2⟩
  rw [show clampN 0 = 0 from by decide] at hL2
  have hNl := lt_of_block hL2.cell
  obtain ⟨H2, hH2⟩ : ∃ H, H = w2.heap.size := ⟨_, rfl⟩
  obtain ⟨w3, hw3⟩ : ∃ w3, w3 = w2.alloc (.cells #[.int .i64 1, .int .i64 1, .int .i64 0, .slice none 0 0] 41) := ⟨_, rfl⟩
  have hb3 : Below w2.heap.size w2 w3 := hw3 ▸ below_alloc (Below.refl _ _) _
  have hw3b : w3.heap[H2]? = some (.cells #[.int .i64 1, .int .i64 1, .int .i64 0, .slice none 0 0] 41 (0, 0)) := by rw [hw3, hH2]; exact heap_alloc_new w2 _
  have hmok : MsOk w3 (letM 1 0 0 (some ⟨H2, 0, none⟩) 1 1 let0) := let_ok (RowN.of_block hw3b rfl rfl) rfl (fun e he => by
    have : e = ⟨1, 1, 0, ⟨none, 0, 0, []⟩⟩ := by simpa [let0] using he
    subst this
    exact ⟨Row8.nil _ _, Nat.le_refl _, Nat.zero_le _, fun _ => rfl⟩) ⟨by decide, by decide⟩
  have hrp : rightP (letM 1 0 0 (some ⟨H2, 0, none⟩) 1 1 let0).plain = true := by rw [let_plain]; exact let0_right
  have hsh : (encP (letM 1 0 0 (some ⟨H2, 0, none⟩) 1 1 let0).plain).length ≤ 4096 := by rw [let_plain]; exact let_short 1 0 0 _ (by decide)
  obtain ⟨he1, he2⟩ := let_enc hmok hrp hsh
  have henc := encode_any _ w3 hmok (let_len _ _ _ _ _ _ _)
  rw [he1] at henc
  obtain ⟨F, hF⟩ : ∃ F, F = Fr.frame (encP (letM 1 0 0 (some ⟨H2, 0, none⟩) 1 1 let0).plain) := ⟨_, rfl⟩
  rw [← hF] at henc he2
  have HENC := Lib.hid henc
  have HDP := Lib.hid he2
  have HL2 := Lib.hid hL2
  have HB2 := Lib.hid (below_then HXB.out hb2)
  have HBX2 := Lib.hid hb2
  have HB3 := Lib.hid hb3
  have HW3 := Lib.hid hw3
  have HH2 := Lib.hid hH2
  have HFL := Lib.hid (rfl : F.length = F.length)
  clear henc he1 he2 hF hL2 hs1 hb2 hb3 hw3 hw3b hmok hrp hsh hH2 HNEW x0 x1
  go_wp2_with fail
  rw [← HW3.out, ← HH2.out]
  refine HENC.out.mono ?_
  rintro e w4 ⟨af, cf, rfl, hof, hb4⟩
  have hdec := decode_any af F.length cf F w4 hof.row hof.cap.1 hof.cap.2
  have HDEC := Lib.hid hdec
  have HB24 := Lib.hid (below_then HB3.out hb4)
  clear hdec hof hb4 HENC HW3 HB3
  go_wp2_with fail
  refine HDEC.out.mono ?_
  rintro e w5 ⟨m, rfl, hpl, hmo, hb5⟩
  rw [HDP.out, if_neg (by simp)]
  rw [HDP.out] at hpl
  have hpl2 : m.plain = letP 1 0 0 (let0.map En.plain) := hpl
  have HB25 := Lib.hid (below_then HB24.out hb5)
  have HMO := Lib.hid hmo
  have hz24 := HB24.out.size
  have hz45 := hb5.size
  have hsay : m.es.map En.says = let0.map En.says := says_plain (congrArg Pm.es hpl2)
  have HSAY := Lib.hid hsay
  have hen : m.en = 1 := by
    have h1 := congrArg List.length hsay
    rw [List.length_map, List.length_map, hmo.len] at h1
    exact h1
  have HEN := Lib.hid hen
  clear hpl hpl2 hmo hsay hb5 hen HDEC
  go_upto_region 5 with (first
    | (refine wpList_storeM rfl _ _ rfl w5.heap.size m zeroM rfl rfl _ (heap_alloc_new w5 _) ?_; intro w6 hd6 ht6; have HD6 := Lib.hid hd6; have HT6 := Lib.hid ht6; clear hd6 ht6))
  have hb6 : Below w5.heap.size w5 w6 := below_of_touch (below_alloc (Below.refl _ _) _) HT6.out (Nat.le_refl _)
  have hmo6 : MOwn w6 w4.heap.size m := HMO.out.keep fun g _ hl => hb6.block g hl
  have hL6 := HL2.out.below (below_then HB25.out hb6)
  have hEA : EnAt w6 (Off N none) m.es m.ea m.en := hmo6.enAt fun b hb _ => ⟨by omega, fun e => by cases e⟩
  have hap := append_any X.heap.size N 0 0 c1 [] none 0 0 m.ea m.en m.ecap m.es w6 hL6 ⟨by omega, by omega, fun k e h => by simp at h⟩ (by have := HEN.out; omega) hEA
  have hap0 : appendOf (lastOf 0 0 []).1 (lastOf 0 0 []).2 m.es = 0 := by
    refine append_ok m.es 0 0 (fun k u hk => ?_) (fun u hu => ?_) ?_
    · obtain ⟨v, hv, he⟩ := says_at HSAY.out k u hk
      cases k with
      | zero =>
        have hv' : (⟨1, 1, 0, ⟨none, 0, 0, []⟩⟩ : En) = v := by simpa [let0] using hv
        have := congrArg Prod.fst he
        rw [← hv'] at this
        exact this
      | succ k => simp [let0] at hv
    · obtain ⟨k, hk⟩ := List.getElem?_of_mem hu
      obtain ⟨v, hv, he⟩ := says_at HSAY.out k u hk
      cases k with
      | zero =>
        have hv' : (⟨1, 1, 0, ⟨none, 0, 0, []⟩⟩ : En) = v := by simpa [let0] using hv
        rw [← hv'] at he
        have e1 : u.ix = 1 := congrArg Prod.fst he
        have e2 : u.tm = 1 := congrArg (fun p => p.2.1) he
        have e3 : u.kd = 0 := congrArg (fun p => p.2.2.1) he
        have e4 : u.s.bs = [] := congrArg (fun p => p.2.2.2) he
        rw [e1, e2, e3, e4]; decide
      | succ k => simp [let0] at hv
    · exact Rise.says (es := let0) (fs := m.es) (by simp [let0, Rise]) HSAY.out
  rw [hap0] at hap
  obtain ⟨-, -, -, -, -, -, -, -, a8, -⟩ := ms_cells HD6.out
  have HAP := Lib.hid hap
  have HL6 := Lib.hid hL6
  have HB6 := Lib.hid (below_then HB25.out hb6)
  have hz6 := hb6.size
  clear hap hap0 hL6 hmo6 hEA hb6
  go_wp2_with fail
  refine HAP.out.mono ?_
  rintro e w7 ⟨rfl, -, hok⟩
  obtain ⟨vs, ae7, cp7, hsv, hL7, hst7, -⟩ := hok rfl
  have hb7 : Below X.heap.size w6 w7 := HL6.out.stepBelow hst7 (by have := HBX2.out.size; omega)
  have hbX7 : Below X.heap.size X w7 := (below_then HBX2.out HB6.out).trans hb7
  have hsv2 : vs.map En.says = let0.map En.says := hsv.trans HSAY.out
  have hsd : Sound 0 0 vs := ⟨by omega, by omega, fun k u hk => by
    obtain ⟨v, hv, he⟩ := says_at hsv2 k u hk
    cases k with
    | zero =>
      have hv' : (⟨1, 1, 0, ⟨none, 0, 0, []⟩⟩ : En) = v := by simpa [let0] using hv
      have := congrArg Prod.fst he
      rw [← hv'] at this
      exact this
    | succ k => simp [let0] at hv⟩
  have hh := has_any X.heap.size N 0 0 c1 vs ae7 (0 + m.es.length) cp7 1 1 w7 hL7 hsd (by have := HEN.out; have := HMO.out.len; omega)
  have hho : hasOf 0 0 vs 1 1 = true := by
    have hlen : vs.length = 1 := by have := congrArg List.length hsv2; simpa [let0] using this
    obtain ⟨v, hv⟩ : ∃ v, vs[0]? = some v := ⟨_, List.getElem?_eq_getElem (by omega)⟩
    obtain ⟨u, hu, he⟩ := says_at hsv2 0 v hv
    have hu' : (⟨1, 1, 0, ⟨none, 0, 0, []⟩⟩ : En) = u := by simpa [let0] using hu
    rw [← hu'] at he
    have e1 : v.ix = 1 := congrArg Prod.fst he
    have e2 : v.tm = 1 := congrArg (fun p => p.2.1) he
    have := has_at hsd hv
    rw [e1, e2] at this
    exact this
  rw [hho] at hh
  have HH := Lib.hid hh
  have HX7 := Lib.hid hbX7
  clear hok hsv hL7 hst7 hb7 hbX7 hsv2 hsd hh hho HAP HL6 a8
  go_wp2_with fail
  refine HH.out.mono ?_
  rintro e w8 ⟨rfl, hb8⟩
  have HX8 := Lib.hid (below_then HX7.out hb8)
  obtain ⟨x0, x1, -, -⟩ := two_cells ((HX8.out.block _ (by have := HXS.out; omega)).trans HXC.out)
  have hcr := confRight_any _ w8 (HOK.out.below HX8.out) (show 2 ≤ 9223372036854775807 ∧ 0 ≤ 9223372036854775807 by decide)
  rw [show confRight [1, 2] [] = true from by decide] at hcr
  have HCR := Lib.hid hcr
  clear hb8 hcr HH
  go_wp2_with fail
  refine HCR.out.mono ?_
  rintro e w9 ⟨rfl, hb9⟩
  have HF := Lib.hid (below_then HXB.out (below_then HX8.out hb9))
  clear hb9 HCR x0 x1
  go_wp2_with fail
  first | exact ⟨rfl, HF.out⟩ | (go_ret; exact ⟨rfl, HF.out⟩)
end Go.Proofs.Ytcejamblndilbaa
namespace Go.Proofs.Ytcejamblndilbaa
open Go.RowKit

/-- two logs beside each other -/
structure LetS (X : World) (BB NA NB : Nat) (cA cB : Cf) (esA esB : List En) (aA aB : Option Addr) (nA nB pA pB : Nat) (w : World) : Prop where
  la : LogAt w X.heap.size NA 0 0 cA esA aA nA pA
  lb : LogAt w BB NB 0 0 cB esB aB nB pB
  oa : LogOff NA cA esA aA NB aB
  ob : LogOff NB cB esB aB NA aA
  low : Below X.heap.size X w
  bb : X.heap.size ≤ BB ∧ BB ≤ w.heap.size
theorem LetS.below {X : World} {BB NA NB : Nat} {cA cB : Cf} {esA esB : List En} {aA aB : Option Addr} {nA nB pA pB : Nat} {w w' : World} (h : LetS X BB NA NB cA cB esA esB aA aB nA nB pA pB w) (hb : Below w.heap.size w w') : LetS X BB NA NB cA cB esA esB aA aB nA nB pA pB w' :=
  ⟨h.la.below hb, h.lb.below hb, h.oa, h.ob, below_then h.low hb, h.bb.1, Nat.le_trans h.bb.2 hb.size⟩
theorem LetS.appA {X : World} {BB NA NB : Nat} {cA cB : Cf} {esA esB vs : List En} {aA aB aA' : Option Addr} {nA nB pA pB nA' pA' : Nat} {w w' : World} (h : LetS X BB NA NB cA cB esA esB aA aB nA nB pA pB w)
    (hL : LogAt w' X.heap.size NA 0 0 cA (esA ++ vs) aA' nA' pA') (hs : NStep w w' NA aA aA') (hn : NewE w.heap.size vs) : LetS X BB NA NB cA cB (esA ++ vs) esB aA' aB nA' nB pA' pB w' :=
  ⟨hL, h.lb.beside hs h.ob, h.oa.step h.lb hs hn, h.ob.other h.lb hs, h.low.trans (h.la.stepBelow hs h.low.size), h.bb.1, Nat.le_trans h.bb.2 hs.size⟩
theorem LetS.appB {X : World} {BB NA NB : Nat} {cA cB : Cf} {esA esB vs : List En} {aA aB aB' : Option Addr} {nA nB pA pB nB' pB' : Nat} {w w' : World} (h : LetS X BB NA NB cA cB esA esB aA aB nA nB pA pB w)
    (hL : LogAt w' BB NB 0 0 cB (esB ++ vs) aB' nB' pB') (hs : NStep w w' NB aB aB') (hn : NewE w.heap.size vs) : LetS X BB NA NB cA cB esA (esB ++ vs) aA aB' nA nB' pA pB' w' :=
  ⟨h.la.beside hs h.oa, hL, h.oa.other h.la hs, h.ob.step h.la hs hn, h.low.trans ((h.lb.stepBelow hs h.bb.2).mono h.bb.1), h.bb.1, Nat.le_trans h.bb.2 hs.size⟩

set_option maxRecDepth 100000 in
set_option maxHeartbeats 32000000 in
theorem wholeLetters_walk (a : Option Addr) (len cap : Nat) (us : List En) (most : Int) (w : World) (hr : RowN w a 4 len (us.flatMap En.cells)) (hul : us.length = len) (hok : ∀ u ∈ us, Sl.ok w u.s) (hlc : len ≤ cap) (hcm : cap ≤ maxLen) (_hn : a = none → cap = 0) (_wm : (Lit.int .i64 most).wf = true) :
    Calls Try.prog 8 #[.slice a len cap, .int .i64 most] w fun e w' => e = .returned (.bool true) ∧ Below w.heap.size w w' := by
  have hlm : len ≤ 9223372036854775807 := by simp only [maxLen] at hcm; omega
  obtain ⟨post, hpost⟩ : ∃ post : Ending → World → Prop, post = fun e w' => e = .returned (.bool true) ∧ Below w.heap.size w w' := ⟨_, rfl⟩
  rw [← hpost]
  have hP : ∀ w', Below w.heap.size w w' → post (.returned (.bool true)) w' := fun w' h => by rw [hpost]; exact ⟨rfl, h⟩
  have HP := Lib.hid hP
  have HR := Lib.hid hr
  have HUL := Lib.hid hul
  have HOK := Lib.hid hok
  clear hpost hP hr hul hok hcm _hn _wm
  go_enter Try.func8, Try.ntmps8
  go_wp2_with fail
  refine (soundLog_any w).mono ?_
  rintro e w1 ⟨rfl, hb1⟩
  obtain ⟨H1, hH1⟩ : ∃ H1, H1 = w1.heap.size := ⟨_, rfl⟩
  obtain ⟨X, hX⟩ : ∃ X, X = (w1.alloc (.cells #[.int .i64 1, .int .i64 2, .int .i64 3] 3)).alloc (.cells #[.slice (some ⟨H1, 0, none⟩) 3 3, .slice none 0 0] 26) := ⟨_, rfl⟩
  have hXb : Below w1.heap.size w1 X := hX ▸ below_alloc (below_alloc (Below.refl _ _) _) _
  have hXs : X.heap.size = H1 + 2 := by rw [hX, World.size_alloc, World.size_alloc, hH1]
  have hXa : X.heap[H1]? = some (.cells #[.int .i64 1, .int .i64 2, .int .i64 3] 3 (0, 0)) := by rw [hX, hH1]; exact alloc_far (heap_alloc_new w1 _) (by simp)
  have hXc : X.heap[H1 + 1]? = some (.cells #[.slice (some ⟨H1, 0, none⟩) 3 3, .slice none 0 0] 26 (0, 0)) := by
    have := heap_alloc_new (w1.alloc (.cells #[.int .i64 1, .int .i64 2, .int .i64 3] 3)) (.cells #[.slice (some ⟨H1, 0, none⟩) 3 3, .slice none 0 0] 26)
    rw [World.size_alloc, ← hH1] at this
    rw [hX]; exact this
  have hcok : Cf.ok X ⟨⟨some ⟨H1, 0, none⟩, 3, 3, [1, 2, 3]⟩, ⟨none, 0, 0, []⟩⟩ := ⟨⟨RowN.of_block hXa rfl rfl, fun h => by cases h⟩, ⟨RowN.nil _ _ _, fun _ => ⟨rfl, rfl⟩⟩⟩
  have hnew := fun Z (hZ : Below X.heap.size X Z) => rnew_any 0 0 _ Z (hcok.below hZ) (show 3 ≤ 1000000000000 ∧ 0 ≤ 1000000000000 by decide)
  rw [show clampN 0 = 0 from by decide] at hnew
  obtain ⟨x0, x1, -, -⟩ := two_cells hXc
  have HX := Lib.hid hX
  have HH1 := Lib.hid hH1
  have HXB := Lib.hid (below_then hb1 hXb)
  have HXC := Lib.hid hXc
  have HNEW := Lib.hid hnew
  have hwX : w.heap.size ≤ X.heap.size := (below_then hb1 hXb).size
  clear hX hXb hXa hXc hXs hH1 hcok hnew hb1
  go_upto_region 4 with fail
  rw [← HH1.out, ← HX.out]
  go_region_held3 (fun w' => w'.cell? ⟨H1 + 1, 0, none⟩ = some (.slice (some ⟨H1, 0, none⟩) 3 3) ∧ w'.cell? ⟨H1 + 1, 1, none⟩ = some (.slice none 0 0)) (first | exact ⟨x0, x1⟩ | exact ⟨z0, z1⟩ | exact ⟨y0, y1⟩ | go_keep)
    (first
      | (go_at_call 20; have hq := hyA.size; clear hq; refine (HNEW.out _ hyA).mono ?_; rintro e wB ⟨NB, cB, rfl, hLB, hsB, hbB⟩; have hyB : Below X.heap.size X wB := below_then hyA hbB; obtain ⟨z0, z1, -, -⟩ := two_cells ((hyB.block _ (lt_of_block HXC.out)).trans HXC.out))
      | (go_at_call 20; refine (HNEW.out _ (Below.refl X.heap.size X).drew).mono ?_; rintro e wA ⟨NA, cA, rfl, hLA, hsA, hbA⟩; have hyA : Below X.heap.size X wA := below_then (Below.refl X.heap.size X).drew hbA; obtain ⟨y0, y1, -, -⟩ := two_cells ((hyA.block _ (lt_of_block HXC.out)).trans HXC.out)))
  rename_i hHeld
  clear hHeld x0 x1 y0 y1 z0 z1
  have hI : LetS X wA.heap.size NA NB cA cB [] [] none none 0 0 0 0 wB := by
    have hAB := LogOff.first (N := NA) (c := cA) hLB (fun g hg => (hLA.on hg).2)
    exact ⟨hLA.below hbB, hLB, hAB.1, hAB.2, hyB, hyA.size, hbB.size⟩
  have HI := Lib.hid hI
  have HSA := Lib.hid hsA
  have HSB := Lib.hid hsB
  obtain ⟨BB, hBB⟩ : ∃ BB, BB = wA.heap.size := ⟨_, rfl⟩
  rw [← hBB] at HI
  clear hI hsA hsB hBB hLA hLB hbA hbB hyA hyB HNEW HXC HX HH1
  go_upto_block 0 with fail
  go_cut [8, 9, 10, 11] from 41 to 67 (fun _ _ _ _ wx => ∃ (esA : List En) (aA : Option Addr) (nA pA : Nat), Hid (LetS X BB NA NB cA cB esA [] aA none nA 0 pA 0 wx) ∧ Hid (Good esA) ∧ Hid (esA.length ≤ 60))
  case first =>
    go_wp2_with fail
    go_loopw [41] (fun iv wr => ∃ (k : Nat) (esA : List En) (aA : Option Addr) (nA pA : Nat), iv = .int .i64 k ∧ k ≤ len ∧ k ≤ 60 ∧ Hid (LetS X BB NA NB cA cB esA [] aA none nA 0 pA 0 wr) ∧ Hid (Good esA) ∧ Hid (esA.length ≤ k)) (fun iv _ => len - (intOf iv).toNat)
    case atStart => exact ⟨0, [], none, 0, 0, rfl, by omega, by omega, HI.out, Good.nil, Nat.le_refl 0⟩
    case round =>
      obtain ⟨k, esA, aA, nA, pA, rfl, hk, hk60, HS, HG, HLE⟩ := hrel
      by_cases hlt : k < len
      · obtain ⟨u, huk⟩ : ∃ u, us[k]? = some u := ⟨_, List.getElem?_eq_getElem (by rw [HUL.out]; omega)⟩
        have hwr : Below w.heap.size w wr := below_then HXB.out HS.out.low
        obtain ⟨b, off, rfl, e0, e1, e2, e3⟩ := en_at (HR.out.below hwr) HUL.out k hlt u huk
        have hkl : (k : Int) < (len : Int) := by omega
        have hsu := (HOK.out u (List.mem_of_getElem? huk)).below hwr
        have HSU := Lib.hid hsu
        have HSW := Lib.hid (HOK.out u (List.mem_of_getElem? huk))
        have HWR := Lib.hid hwr
        clear hsu huk hwr
        by_cases h60 : 60 ≤ k
        · have h60' : (60 : Int) ≤ (k : Int) := by omega
          obtain ⟨W, hW⟩ : ∃ W, W = wr.alloc (.cells #[.int .i64 u.ix, .int .i64 u.tm, .int .i64 u.kd, .slice u.s.a u.s.len u.s.cap] 41) := ⟨_, rfl⟩
          have HI2 := Lib.hid (hW ▸ HS.out.below (below_alloc (Below.refl _ _) _) : LetS X BB NA NB cA cB esA [] aA none nA 0 pA 0 W)
          have HW := Lib.hid hW
          clear hW
          go_wp2_with fail
          rw [← HW.out]
          go_meet
          exact ⟨esA, aA, nA, pA, HI2.out, HG.out, Nat.le_trans HLE.out hk60⟩
        have h60' : ¬ (60 : Int) ≤ (k : Int) := by omega
        obtain ⟨W, hW⟩ : ∃ W, W = wr.alloc (.cells #[.int .i64 u.ix, .int .i64 u.tm, .int .i64 u.kd, .slice u.s.a u.s.len u.s.cap] 41) := ⟨_, rfl⟩
        have hbW : Below wr.heap.size wr W := hW ▸ below_alloc (Below.refl _ _) _
        have hWe : W.heap[wr.heap.size]? = some (.cells #[.int .i64 u.ix, .int .i64 u.tm, .int .i64 u.kd, .slice u.s.a u.s.len u.s.cap] 41 (0, 0)) := hW ▸ heap_alloc_new wr _
        have HW := Lib.hid hW
        have hSW := HS.out.below hbW
        have hlast := last_any X.heap.size NA 0 0 cA esA aA nA pA W hSW.la (by have := hSW.la.len; have := HLE.out; omega)
        have hln := HG.out.snd.last
        have htm := last_tm 0 0 esA
        have htp := HG.out.top
        obtain ⟨li, hli⟩ : ∃ li, li = (lastOf 0 0 esA).1 := ⟨_, rfl⟩
        obtain ⟨lt, hlt2⟩ : ∃ lt, lt = (lastOf 0 0 esA).2 := ⟨_, rfl⟩
        rw [← hli, ← hlt2] at hlast
        rw [← htm, ← hlt2] at htp
        rw [← hli] at hln
        have hli0 : 0 ≤ li := by omega
        have hli1 : li ≤ 60 := by have := HLE.out; omega
        have hlt0 : 0 ≤ lt := htp.1
        have hlt1 : lt ≤ 1099511627776 := htp.2
        have HLAST := Lib.hid hlast
        have HLI := Lib.hid hli
        have HLT := Lib.hid hlt2
        have HLN := Lib.hid hln
        have HSW2 := Lib.hid hSW
        have HWE := Lib.hid hWe
        have HBW := Lib.hid hbW
        clear hW hbW hWe hSW hlast hln htm htp hli hlt2
        go_wp2_with fail
        rw [← HW.out]
        refine HLAST.out.mono ?_
        rintro e w2 ⟨rfl, hb2⟩
        have hE2 := (hb2.block _ (Array.getElem?_eq_some_iff.1 HWE.out).1).trans HWE.out
        obtain ⟨⟨q0, q1, q2, q3⟩, g0, g1, g2, g3⟩ := four_cells hE2
        have HB2 := Lib.hid (below_then HBW.out hb2)
        have HE2 := Lib.hid hE2
        clear hb2 hE2 HLAST HW HWE HBW
        obtain ⟨mx, hmx⟩ : ∃ mx : Int, mx = if lt < 1 then 1 else lt := ⟨_, rfl⟩
        obtain ⟨bt, hbt⟩ : ∃ bt : Int, bt = bits .and .i64 u.tm 1 := ⟨_, rfl⟩
        obtain ⟨T, hT⟩ : ∃ T, T = wrap64 (mx + bt) := ⟨_, rfl⟩
        have hbb := and_mask u.tm 1 (by decide)
        rw [show ((1 : Nat) : Int) = 1 from rfl] at hbb
        obtain ⟨hb0, hb1⟩ := hbb
        have hT0 : lt ≤ T ∧ 1 ≤ T := by
          rw [hT, hmx, hbt]
          unfold wrap64
          split <;> omega
        have HT := Lib.hid hT
        have HMX := Lib.hid hmx
        have HBT := Lib.hid hbt
        clear hT hb0 hb1 hmx hbt
        go_upto_region 14 with fail
        rw [← HMX.out, ← HBT.out, ← HT.out]
        clear HT HMX HBT
        obtain ⟨W3, hW3⟩ : ∃ W3, W3 = (w2.setCell ⟨wr.heap.size, 0, none⟩ (.int .i64 (li + 1))).setCell ⟨wr.heap.size, 1, none⟩ (.int .i64 T) := ⟨_, rfl⟩
        have hb3 : Below wr.heap.size wr W3 := hW3 ▸ below_set (below_set HB2.out _ (Nat.le_refl _)) _ (Nat.le_refl _)
        have hE3 : W3.heap[wr.heap.size]? = some (.cells #[.int .i64 (li + 1), .int .i64 T, .int .i64 u.kd, .slice u.s.a u.s.len u.s.cap] 41 (0, 0)) := hW3 ▸ set_block (i := 1) (set_block (i := 0) HE2.out _) _
        rw [← hW3]
        clear q0 q1 q2 q3 g0 g1 g2 g3
        obtain ⟨⟨q0, q1, q2, q3⟩, -⟩ := four_cells hE3
        obtain ⟨Z, hZ⟩ : ∃ Z, Z = W3.heap.size := ⟨_, rfl⟩
        obtain ⟨W4, hW4⟩ : ∃ W4, W4 = W3.alloc (.cells #[.int .i64 (li + 1), .int .i64 T, .int .i64 u.kd, .slice u.s.a u.s.len u.s.cap] 41) := ⟨_, rfl⟩
        have hb4 : Below wr.heap.size wr W4 := below_then hb3 (hW4 ▸ below_alloc (Below.refl _ _) _)
        have hW4e : W4.heap[Z]? = some (.cells #[.int .i64 (li + 1), .int .i64 T, .int .i64 u.kd, .slice u.s.a u.s.len u.s.cap] 41 (0, 0)) := by rw [hW4, hZ]; exact heap_alloc_new W3 _
        have hS4 := HS.out.below hb4
        have hwZ : wr.heap.size ≤ Z := by rw [hZ]; exact hb3.size
        have hNA : NA < wr.heap.size := lt_of_block HS.out.la.cell
        have hEA : EnAt W4 (Off NA aA) [⟨li + 1, T, u.kd, u.s⟩] (some ⟨Z, 0, none⟩) 1 := ⟨rfl, RowN.of_block hW4e rfl rfl, fun v hv => by
          have hv' : v = ⟨li + 1, T, u.kd, u.s⟩ := by simpa using hv
          rw [hv']
          exact ⟨HSU.out.below hb4, slP_low HSW.out HS.out.la HXB.out.size⟩, fun b' off' e' _ => by
          injection e' with e'
          injection e' with e1 _ _
          subst e1
          exact ⟨by omega, fun e' => by have := (HS.out.la.on (.inr (.inr (.inr (.inl e'))))).2; omega⟩⟩
        have hap := append_any X.heap.size NA 0 0 cA esA aA nA pA (some ⟨Z, 0, none⟩) 1 1 [⟨li + 1, T, u.kd, u.s⟩] W4 hS4.la HG.out.snd (by have := hS4.la.len; have := HLE.out; omega) hEA
        obtain ⟨code, hcode⟩ : ∃ code, code = appendOf (lastOf 0 0 esA).1 (lastOf 0 0 esA).2 [⟨li + 1, T, u.kd, u.s⟩] := ⟨_, rfl⟩
        rw [← hcode] at hap
        have HAP := Lib.hid hap
        have HCODE := Lib.hid hcode
        have HS4 := Lib.hid hS4
        have HW4 := Lib.hid hW4
        have HZ := Lib.hid hZ
        clear hW3 hb3 hE3 hZ hW4 hb4 hW4e hS4 hwZ hNA hEA hap hcode HSW2 HE2 HB2
        go_wp2_with fail
        rw [← HW4.out, ← HZ.out]
        refine HAP.out.mono ?_
        rintro e w5 ⟨rfl, hno, hyes⟩
        have hfin : ∃ (esA' : List En) (aA' : Option Addr) (nA' pA' : Nat), LetS X BB NA NB cA cB esA' [] aA' none nA' 0 pA' 0 w5 ∧ Good esA' ∧ esA'.length ≤ k + 1 := by
          by_cases hc : code = 0
          · obtain ⟨vs, ae', cap', hsv, hL5, hst, hne⟩ := hyes hc
            have hc0 := HCODE.out.symm.trans hc
            refine ⟨esA ++ vs, ae', _, cap', HS4.out.appA hL5 hst hne, HG.out.more hc0 hsv, ?_⟩
            have hvl := congrArg List.length hsv
            rw [List.length_map, List.length_map] at hvl
            rw [List.length_append, hvl]
            have := HLE.out
            simp only [List.length_cons, List.length_nil]
            omega
          · exact ⟨esA, aA, nA, pA, HS4.out.below (hno hc), HG.out, Nat.le_succ_of_le HLE.out⟩
        have HFIN := Lib.hid hfin
        clear hno hyes hfin HAP HS4 q0 q1 q2 q3
        go_wp2_with fail
        go_roundw
        case rel =>
          obtain ⟨esA', aA', nA', pA', h1, h2, h3⟩ := HFIN.out
          exact ⟨k + 1, esA', aA', nA', pA', by go_num, by omega, by omega, h1, h2, h3⟩
        case measure => simp [intOf]; omega
      · have hke : k = len := by omega
        subst hke
        go_wp2_with fail
        go_meet
        exact ⟨esA, aA, nA, pA, HS.out, HG.out, Nat.le_trans HLE.out hk60⟩
  case rest =>
  obtain ⟨esA, aA, nA, pA, HS, HG, HLE⟩ := hcut
  obtain ⟨L, hL⟩ : ∃ L, L = esA.length := ⟨_, rfl⟩
  have hL60 : L ≤ 60 := by rw [hL]; exact HLE.out
  have hlA : lastOf 0 0 esA = ((L : Int), tAt 0 esA L) := last_take HG.out (q := L) (by omega) (by rw [List.take_of_length_le (by omega)])
  have htopb := HG.out.at L (by omega)
  obtain ⟨top, htop⟩ : ∃ top, top = tAt 0 esA L := ⟨_, rfl⟩
  rw [← htop] at hlA htopb
  have hnA : nA = L := by rw [hL]; exact HS.out.la.len.symm
  have hlast := last_any X.heap.size NA 0 0 cA esA aA nA pA wc HS.out.la (by omega)
  rw [hlA] at hlast
  obtain ⟨b7, hb7⟩ : ∃ b7 : Int, b7 = bits .and .i64 most 7 := ⟨_, rfl⟩
  have hbb := and_mask most 7 (by decide)
  rw [show ((7 : Nat) : Int) = 7 from rfl, ← hb7] at hbb
  obtain ⟨mo, hmo⟩ : ∃ mo : Int, mo = wrap64 (1 + b7) := ⟨_, rfl⟩
  have hmo1 : 1 ≤ mo ∧ mo ≤ 8 := by rw [hmo]; unfold wrap64; omega
  have HLAST := Lib.hid hlast
  have HB7 := Lib.hid hb7
  have HMO := Lib.hid hmo
  have HL := Lib.hid hL
  have HNA := Lib.hid hnA
  have HLA := Lib.hid hlA
  have HTOP := Lib.hid htop
  have HTB := Lib.hid htopb
  clear hlast hb7 hbb hmo hL hnA hlA htop htopb
  go_upto_region 17 with fail
  rw [← HB7.out, ← HMO.out]
  clear HB7 HMO
  go_wp2_with fail
  refine HLAST.out.mono ?_
  rintro e w2 ⟨rfl, hb2⟩
  have HS2 := Lib.hid (HS.out.below hb2)
  clear hb2 HLAST HS
  go_upto_block 2 with fail
  go_cut [1, 14, 15, 16, 17, 18, 19, 20] from 76 to 125 (fun _ _ _ _ _ _ _ _ wx => ∃ (esB : List En) (aB : Option Addr) (nB pB : Nat), Hid (LetS X BB NA NB cA cB esA esB aA aB nA nB pA pB wx) ∧ Hid (esB.map En.says = esA.map En.says))
  case first =>
    go_wp2_with fail
    go_loopw [1, 14] (fun mv rv wr => ∃ (q r : Nat) (ms : Int) (esB : List En) (aB : Option Addr) (nB pB : Nat), mv = .int .i64 ms ∧ rv = .int .i64 r ∧ 1 ≤ ms ∧ ms ≤ 8 ∧ q ≤ L ∧ r ≤ q + 1 ∧ (1 < ms → r ≤ q) ∧ Hid (LetS X BB NA NB cA cB esA esB aA aB nA nB pA pB wr) ∧ Hid (esB.map En.says = (esA.take q).map En.says)) (fun _ rv _ => 100 - (intOf rv).toNat)
    case atStart => exact ⟨0, 0, mo, [], none, 0, 0, rfl, rfl, hmo1.1, hmo1.2, by omega, by omega, fun _ => by omega, HS2.out, rfl⟩
    case round =>
      obtain ⟨q, r, ms, esB, aB, nB, pB, rfl, rfl, hms1, hms8, hq, hrq, hrm, HS, HSAY⟩ := hrel
      have hr100 : (r : Int) < 100 := by omega
      have hlB : lastOf 0 0 esB = ((q : Int), tAt 0 esA q) := last_take HG.out (by have := HL.out; omega) HSAY.out
      have hqb := HG.out.at q (by have := HL.out; omega)
      have hgB : Good esB := HG.out.take HSAY.out
      have hlenB : esB.length = q := by
        have := congrArg List.length HSAY.out
        rw [List.length_map, List.length_map, List.length_take] at this
        have := HL.out
        omega
      have hnB : nB = q := by rw [← hlenB]; exact HS.out.lb.len.symm
      have hlast := last_any BB NB 0 0 cB esB aB nB pB wr HS.out.lb (by omega)
      rw [hlB] at hlast
      obtain ⟨tq, htq⟩ : ∃ tq, tq = tAt 0 esA q := ⟨_, rfl⟩
      rw [← htq] at hlast hlB hqb
      have HLAST := Lib.hid hlast
      have HLB := Lib.hid hlB
      have HQB := Lib.hid hqb
      have HGB := Lib.hid hgB
      have HNB := Lib.hid hnB
      have HTQ := Lib.hid htq
      have HRM := Lib.hid hrm
      clear hlast hlB hqb hgB hlenB hnB htq hrm
      by_cases hqL : q = L
      · have hsay : esB.map En.says = esA.map En.says := by rw [HSAY.out, hqL, List.take_of_length_le (by have := HL.out; omega)]
        have HSY := Lib.hid hsay
        have hqe : ((q : Int) == (L : Int)) = true := by simp [hqL]
        clear hqL hsay
        go_wp2_with fail
        refine HLAST.out.mono ?_
        rintro e w3 ⟨rfl, hb3⟩
        have HI3 := Lib.hid (HS.out.below hb3)
        clear hb3
        go_wp2_with fail
        go_meet
        exact ⟨esB, aB, nB, pB, HI3.out, HSY.out⟩
      have hqe : ((q : Int) == (L : Int)) = false := by simp; omega
      have hqlt : q < L := by omega
      clear hqL
      go_wp2_with fail
      refine HLAST.out.mono ?_
      rintro e w3 ⟨rfl, hb3⟩
      have HS3 := Lib.hid (HS.out.below hb3)
      clear hb3 HLAST HS
      rcases Int.lt_or_le top 1 with htop1 | htop1
      all_goals
        obtain ⟨mx, hmx⟩ : ∃ mx : Int, mx = if top < 1 then 1 else top := ⟨_, rfl⟩
        have hmxm : mx = max (tAt 0 esA esA.length) 1 := by
          rw [hmx, ← HL.out, ← HTOP.out]
          split <;> omega
        obtain ⟨us0, hus0⟩ : ∃ us0, us0 = (esA.drop q).take ms.toNat := ⟨_, rfl⟩
        obtain ⟨n1, hn1⟩ : ∃ n1, n1 = us0.length := ⟨_, rfl⟩
        have hn1b : 1 ≤ n1 ∧ n1 ≤ 8 ∧ n1 ≤ ms.toNat ∧ q + n1 ≤ L := by
          have := HL.out
          rw [hn1, hus0, List.length_take, List.length_drop]
          omega
        have hus1 : us0 = (esA.drop q).take n1 := by
          rw [hn1, hus0, List.length_take, ← List.take_eq_take_min]
        have hent := entries_any X.heap.size NA 0 0 cA esA aA nA pA ((q : Int) + 1) ms w3 HS3.out.la HG.out.snd (by have := HNA.out; omega) (AllR.small HG.out.all HS3.out.la)
        have heo : entriesOf 0 esA ((q : Int) + 1) ms = us0 := by
          rw [hus0]
          unfold entriesOf
          simp only
          have := HL.out
          rw [if_neg (by
            intro h
            rcases h with h | h | h
            · rw [h] at this; simp at this; omega
            · omega
            · omega)]
          congr 2
          omega
        rw [heo] at hent
        unfold RetEs at hent
        rw [← hn1] at hent
        have HENT := Lib.hid hent
        first | rw [if_pos htop1] at hmx | rw [if_neg (by omega)] at hmx
        have HMX := Lib.hid hmx
        have HMXM := Lib.hid hmxm
        have HUS1 := Lib.hid hus1
        clear hmx hmxm hus0 hn1 hus1 hent heo
        go_upto_region 23 with fail
        go_wp2_with fail
        refine HENT.out.mono ?_
        rintro e w4 ⟨ls, ao, lcap, rfl, hls, hown, hb4⟩
        have hls2 : ls.map En.says = ((esA.drop q).take n1).map En.says := by rw [hls, HUS1.out]
        have hcap := own_cap hown.row
        have hmok : MsOk w4 (letM mx q tq ao n1 lcap ls) := let_ok (RowN.of_own hown.row) hown.len (fun e he => Own8.sl (hown.own e he)) ⟨hcap.1, hcap.2.1⟩
        have hrp : rightP (letM mx q tq ao n1 lcap ls).plain = true := by
          rw [let_plain, HMXM.out, HTQ.out]
          exact let_right HG.out (k := n1) (by have := HL.out; omega) (by have := HL.out; omega) hn1b.2.1 hls2
        have henc := encode_any (letM mx q tq ao n1 lcap ls) w4 hmok (let_len _ _ _ _ _ _ _)
        have HS4 := Lib.hid (HS3.out.below hb4)
        have HLS := Lib.hid hls2
        have hsz34 := hb4.size
        have hone : ms = 1 → (encP (letM mx q tq ao n1 lcap ls).plain).length ≤ 4096 := by
          intro h1
          have hll := hown.len
          have hn11 : n1 = 1 := by omega
          rw [hn11] at hll
          obtain ⟨x, hx⟩ : ∃ x, ls = [x] := by
            match ls, hll with
            | [x], _ => exact ⟨x, rfl⟩
          rw [let_plain, hx]
          refine let_short _ _ _ _ ?_
          obtain ⟨v, hv, he⟩ := says_at hls2 0 x (by rw [hx]; rfl)
          have hvr := rightE_iff.1 (HG.out.all v (List.mem_of_mem_drop (List.mem_of_mem_take (List.mem_of_getElem? hv))))
          have e4 : x.s.bs = v.s.bs := congrArg (fun p => p.2.2.2) he
          show x.s.bs.length ≤ 2048
          rw [e4]
          omega
        by_cases hsh : (encP (letM mx q tq ao n1 lcap ls).plain).length ≤ 4096
        case neg =>
          have hms : 1 < ms := by
            rcases Int.lt_or_le 1 ms with h | h
            · exact h
            · exact absurd (hone (by omega)) hsh
          rw [let_long hmok hrp hsh, HMX.out] at henc
          have HENC := Lib.hid henc
          have hrq2 := HRM.out hms
          clear henc hls hls2 hown hb4 hcap hmok hrp hone hsh HENT HMX
          go_wp2_with fail
          refine HENC.out.mono ?_
          rintro e w5 ⟨af, cf, rfl, -, hb5⟩
          have HS5 := Lib.hid (HS4.out.below hb5)
          clear hb5 HENC
          go_wp2_with fail
          go_roundw
          case rel => exact ⟨q, r + 1, 1, esB, aB, nB, pB, rfl, by go_num, by omega, by omega, hq, by omega, (fun h => by omega), HS5.out, HSAY.out⟩
          case measure => simp [intOf]; omega
        obtain ⟨he1, he2⟩ := let_enc hmok hrp hsh
        rw [he1] at henc
        obtain ⟨F, hF⟩ : ∃ F, F = Fr.frame (encP (letM mx q tq ao n1 lcap ls).plain) := ⟨_, rfl⟩
        rw [← hF] at henc he2
        rw [HMX.out] at henc
        rw [let_plain] at he2
        have HENC := Lib.hid henc
        have HDP := Lib.hid he2
        clear henc he1 he2 hF hls hls2 hown hb4 hcap hmok hrp hone hsh HENT HMX
        go_wp2_with fail
        refine HENC.out.mono ?_
        rintro e w5 ⟨af, cf, rfl, hof, hb5⟩
        have hdec := decode_any af F.length cf F w5 hof.row hof.cap.1 hof.cap.2
        have HDEC := Lib.hid hdec
        have HS5 := Lib.hid (HS4.out.below hb5)
        clear hdec hof hb5 HENC
        go_wp2_with fail
        refine HDEC.out.mono ?_
        rintro e w6 ⟨m, rfl, hpl, hmo6, hb6⟩
        rw [HDP.out, if_neg (by simp)]
        rw [HDP.out] at hpl
        have hsm : m.es.map En.says = ((esA.drop q).take n1).map En.says := (says_plain (congrArg Pm.es (show m.plain = letP mx q tq (ls.map En.plain) from hpl))).trans HLS.out
        have HS6 := Lib.hid (HS5.out.below hb6)
        have HMO := Lib.hid hmo6
        have HSM := Lib.hid hsm
        have hz56 := hb6.size
        have hz5 := HS5.out.bb.2
        have hNB5 : NB < w5.heap.size := lt_of_block HS5.out.lb.cell
        clear hpl hmo6 hsm hb6 HDEC
        go_upto_region 27 with (first
          | (refine wpList_storeM rfl _ _ rfl w6.heap.size m zeroM rfl rfl _ (heap_alloc_new w6 _) ?_; intro w7 hd7 ht7; have HD7 := Lib.hid hd7; have HT7 := Lib.hid ht7; clear hd7 ht7))
        have hb7 : Below w6.heap.size w6 w7 := below_of_touch (below_alloc (Below.refl _ _) _) HT7.out (Nat.le_refl _)
        have hmo7 : MOwn w7 w5.heap.size m := HMO.out.keep fun g _ hl => hb7.block g hl
        have hS7 := HS6.out.below hb7
        have hEA : EnAt w7 (Off NB aB) m.es m.ea m.en := hmo7.enAt fun b hb _ => ⟨by omega, fun e => by have := (HS5.out.lb.on (.inr (.inr (.inr (.inl e))))).2; omega⟩
        have hml : m.en = n1 := by
          have h1 := congrArg List.length HSM.out
          rw [List.length_map, List.length_map, hmo7.len, List.length_take, List.length_drop] at h1
          have := HL.out
          omega
        have hap := append_any BB NB 0 0 cB esB aB nB pB m.ea m.en m.ecap m.es w7 hS7.lb HGB.out.snd (by have := HNB.out; omega) hEA
        rw [HLB.out] at hap
        have hc0 : appendOf (q : Int) tq m.es = 0 := by rw [HTQ.out]; exact let_append HG.out (k := n1) (by have := HL.out; omega) HSM.out
        simp only at hap
        rw [hc0] at hap
        obtain ⟨-, -, -, -, -, -, -, -, a8, -⟩ := ms_cells HD7.out
        have HAP := Lib.hid hap
        have HS7 := Lib.hid hS7
        have HML := Lib.hid hml
        clear hb7 hmo7 hS7 hEA hml hap hc0 HT7 HD7
        go_wp2_with fail
        refine HAP.out.mono ?_
        rintro e w8 ⟨rfl, -, hok⟩
        obtain ⟨vs, ae8, cp8, hsv, hL8, hst8, hne8⟩ := hok rfl
        have HS8 := Lib.hid (HS7.out.appB hL8 hst8 hne8)
        have HSY8 := Lib.hid (take_more HSAY.out (hsv.trans HSM.out))
        clear hok hsv hL8 hst8 hne8 HAP a8
        go_wp2_with fail
        go_roundw
        case rel => exact ⟨q + n1, r + 1, ms, esB ++ vs, ae8, _, cp8, rfl, by go_num, hms1, hms8, by omega, by omega, (fun h => by have := HRM.out h; omega), HS8.out, HSY8.out⟩
        case measure => simp [intOf]; omega
  case rest =>
  obtain ⟨esB, aB, nB, pB, HS, HSAY⟩ := hcut
  clear HS2
  have hlenB : esB.length = L := by rw [says_len HSAY.out, HL.out]
  have hnB : nB = L := by rw [← hlenB]; exact HS.out.lb.len.symm
  obtain ⟨hcA1, hcA2⟩ : cA.v.zs = [1, 2, 3] ∧ cA.l.zs = [] := ⟨congrArg Prod.fst HSA.out, congrArg Prod.snd HSA.out⟩
  obtain ⟨hcB1, hcB2⟩ : cB.v.zs = [1, 2, 3] ∧ cB.l.zs = [] := ⟨congrArg Prod.fst HSB.out, congrArg Prod.snd HSB.out⟩
  have hzl : ∀ {w : World} {b : Nat} {s : Is} {n : Nat}, OwnZ w b s → s.zs.length = n → s.len = n := fun h e => by
    have := h.row.1
    simp [cellsZ] at this
    omega
  have hgB : Good esB := HG.out.take (q := L) (by rw [HSAY.out, List.take_of_length_le (by have := HL.out; omega)])
  have hcfA := Conf_any X.heap.size NA 0 0 cA esA aA nA pA wc HS.out.la (by have := HNA.out; omega) ⟨by rw [hzl HS.out.la.vo (congrArg List.length hcA1)]; decide, by rw [hzl HS.out.la.le (congrArg List.length hcA2)]; decide⟩
  have hcfB := fun Z (hZ : Below wc.heap.size wc Z) => Conf_any BB NB 0 0 cB esB aB nB pB Z (HS.out.below hZ).lb (by omega) ⟨by rw [hzl HS.out.lb.vo (congrArg List.length hcB1)]; decide, by rw [hzl HS.out.lb.le (congrArg List.length hcB2)]; decide⟩
  have hsy : cA.says = ([1, 2, 3], []) := Prod.ext hcA1 hcA2
  have hsyB : cB.says = ([1, 2, 3], []) := Prod.ext hcB1 hcB2
  rw [hsyB, last_says HSAY.out, conf_says HSAY.out] at hcfB
  rw [hsy] at hcfA
  have hpos := conf_pos esA HG.out.all ([1, 2, 3], []) (by decide) (lastOf 0 0 esA).1
  have hsml := conf_small 0 ([1, 2, 3], []) esA (lastOf 0 0 esA).1 7 ⟨by decide, by decide⟩ (by decide)
  obtain ⟨CF, hCF⟩ : ∃ CF, CF = confAtOf 0 ([1, 2, 3], []) esA (lastOf 0 0 esA).1 := ⟨_, rfl⟩
  rw [← hCF] at hcfA hcfB hpos hsml
  obtain ⟨⟨cv, cl⟩, ci⟩ := CF
  simp only at hcfA hcfB hpos hsml
  have HCA := Lib.hid hcfA
  have HCB := Lib.hid hcfB
  have HGB := Lib.hid hgB
  have HLB := Lib.hid hlenB
  clear hlenB hcfA hcfB hgB hCF hsy hsyB hcA1 hcA2 hcB1 hcB2 hzl
  go_wp2_with fail
  refine HCA.out.mono ?_
  rintro e x1 ⟨v1, rfl, hret1⟩
  obtain ⟨c1, rfl, hs1, ov1, ol1, hb1⟩ := hret1.own
  obtain ⟨Y1, hY1⟩ : ∃ Y1, Y1 = x1.alloc (.cells #[.slice c1.v.a c1.v.len c1.v.cap, .slice c1.l.a c1.l.len c1.l.cap] 26) := ⟨_, rfl⟩
  have hyx : Below x1.heap.size x1 Y1 := hY1 ▸ below_alloc (Below.refl _ _) _
  have hE1 : Y1.heap[x1.heap.size]? = some (.cells #[.slice c1.v.a c1.v.len c1.v.cap, .slice c1.l.a c1.l.len c1.l.cap] 26 (0, 0)) := hY1 ▸ heap_alloc_new x1 _
  have hy1 : Below wc.heap.size wc Y1 := below_then hb1 hyx
  have hcb := HCB.out Y1 hy1
  have HCB1 := Lib.hid hcb
  have HK1 := Lib.hid ((Cf.ok_of_own ov1 ol1).below hyx)
  have HS1 := Lib.hid hs1
  have HE1 := Lib.hid hE1
  have HY1 := Lib.hid hY1
  have HW1 := Lib.hid hy1
  clear hret1 hs1 ov1 ol1 hb1 hyx hE1 hY1 hy1 hcb HCB HCA
  go_wp2_with fail
  rw [← HY1.out]
  refine HCB1.out.mono ?_
  rintro e x2 ⟨v2, rfl, hret2⟩
  obtain ⟨c2, rfl, hs2, ov2, ol2, hb2⟩ := hret2.own
  obtain ⟨Y2, hY2⟩ : ∃ Y2, Y2 = x2.alloc (.cells #[.slice c2.v.a c2.v.len c2.v.cap, .slice c2.l.a c2.l.len c2.l.cap] 26) := ⟨_, rfl⟩
  have hyx : Below x2.heap.size x2 Y2 := hY2 ▸ below_alloc (Below.refl _ _) _
  have hE2 : Y2.heap[x2.heap.size]? = some (.cells #[.slice c2.v.a c2.v.len c2.v.cap, .slice c2.l.a c2.l.len c2.l.cap] 26 (0, 0)) := hY2 ▸ heap_alloc_new x2 _
  have hy12 : Below Y1.heap.size Y1 Y2 := below_then hb2 hyx
  have hy2 : Below wc.heap.size wc Y2 := below_then HW1.out hy12
  have HK2 := Lib.hid ((Cf.ok_of_own ov2 ol2).below hyx)
  have HKA := Lib.hid (HK1.out.below hy12)
  have HS2 := Lib.hid hs2
  have HE2 := Lib.hid hE2
  have HE1 := Lib.hid ((hy12.block _ (lt_of_block HE1.out)).trans HE1.out)
  have HY2 := Lib.hid hY2
  have HW2 := Lib.hid (HS.out.below hy2)
  clear hret2 hs2 ov2 ol2 hb2 hyx hE2 hY2 hy12 hy2 HCB1 HK1 HW1
  have hkl : ∀ (w : World) (c : Cf) (v l : List Int), Cf.ok w c → c.says = (v, l) → c.v.len = v.length ∧ c.v.zs = v := fun w c v l h e => by
    have := h.1.1.1
    have e1 : c.v.zs = v := congrArg Prod.fst e
    rw [e1] at this
    simp [cellsZ] at this
    exact ⟨by omega, e1⟩
  obtain ⟨hl1, hz1⟩ := hkl _ _ _ _ HKA.out HS1.out
  obtain ⟨hl2, hz2⟩ := hkl _ _ _ _ HK2.out HS2.out
  have hqa := fun Z (hZ : Below Y2.heap.size Y2 Z) => quorum_all c1 c2.v.a c2.v.len c2.v.cap c2.v.zs Z (HKA.out.below hZ) (HK2.out.1.1.below hZ) (by rw [hz1, hz2]; exact fun z h => h) (by omega) ⟨by omega, by omega⟩
  have hqb := fun Z (hZ : Below Y2.heap.size Y2 Z) => quorum_all c2 c1.v.a c1.v.len c1.v.cap c1.v.zs Z (HK2.out.below hZ) (HKA.out.1.1.below hZ) (by rw [hz1, hz2]; exact fun z h => h) (by omega) ⟨by omega, by omega⟩
  have hlq : c1.v.len = c2.v.len := by omega
  have hea := entries_any X.heap.size NA 0 0 cA esA aA nA pA 0 100 Y2 HW2.out.la HG.out.snd (by have := HNA.out; omega) (AllR.small HG.out.all HW2.out.la)
  have heb := fun Z (hZ : Below Y2.heap.size Y2 Z) => entries_any BB NB 0 0 cB esB aB nB pB 0 100 Z (HW2.out.below hZ).lb HGB.out.snd (by omega) (AllR.small HGB.out.all (HW2.out.below hZ).lb)
  have hall : ∀ es : List En, es.length ≤ 60 → entriesOf 0 es 0 100 = es := fun es h => by
    have := entries_all (ix := 0) (es := es) (by decide) 100 (by decide)
    rw [show ((100 : Nat) : Int) = 100 from rfl] at this
    rw [this, List.take_of_length_le (by omega)]
  rw [hall esA HLE.out] at hea
  rw [hall esB (by have := HLB.out; omega)] at heb
  have HQA := Lib.hid hqa
  have HQB := Lib.hid hqb
  have HEA := Lib.hid hea
  have HEB := Lib.hid heb
  have HLQ := Lib.hid hlq
  have HBX := Lib.hid (below_then HXB.out HW2.out.low)
  clear hkl hl1 hl2 hz1 hz2 hqa hqb hea heb hall hlq hpos hsml
  go_wp2_with fail
  rw [← HY2.out]
  refine HEA.out.mono ?_
  rintro e z1 ⟨l1, o1, p1, rfl, hls1, how1, hbz1⟩
  have hbz1' := hbz1
  have HEB1 := Lib.hid (HEB.out z1 hbz1)
  have HZ1 := Lib.hid hbz1
  have HO1 := Lib.hid how1
  have HL1 := Lib.hid hls1
  clear hls1 how1 hbz1 hbz1' HEA HEB
  go_wp2_with fail
  refine HEB1.out.mono ?_
  rintro e z2 ⟨l2, o2, p2, rfl, hls2, how2, hbz2⟩
  have heok : ∀ {w : World} {b : Nat} {ls : List En} {ao : Option Addr} {n cap : Nat}, OwnE w b ls ao n cap → EnR w ls ao n := fun h => ⟨h.len, RowN.of_own h.row, fun u hu => ⟨(h.own u hu).row, Nat.le_trans (h.own u hu).cap.1 (h.own u hu).cap.2⟩⟩
  have hsame := esame_any o1 o2 esA.length esB.length p1 p2 l1 l2 z2 ((heok HO1.out).below hbz2) (heok how2) HO1.out.cap
  rw [decide_eq_true (HL1.out.trans (HSAY.out.symm.trans hls2.symm))] at hsame
  have HSM := Lib.hid hsame
  have HZ2 := Lib.hid (below_then HZ1.out hbz2)
  clear hls2 how2 hbz2 heok hsame HEB1 HO1 HL1
  go_wp2_with fail
  refine HSM.out.mono ?_
  rintro e z3 ⟨rfl, nz, hz3⟩
  have hbz3 : Below z2.heap.size z2 z3 := hz3 ▸ below_drewN (Below.refl _ _) _
  clear hz3
  have hZ3 := below_then HZ2.out hbz3
  have HZ3 := Lib.hid hZ3
  have hF1 := (hZ3.block _ (lt_of_block HE1.out)).trans HE1.out
  have hF2 := (hZ3.block _ (lt_of_block HE2.out)).trans HE2.out
  obtain ⟨c10, c11, -, -⟩ := two_cells hF1
  obtain ⟨c20, c21, -, -⟩ := two_cells hF2
  clear hF1 hF2 hZ3 hbz3 HSM HZ2
  have HQA3 := Lib.hid (HQA.out z3 HZ3.out)
  clear HQA
  go_wp2_with fail
  refine HQA3.out.mono ?_
  rintro e z4 ⟨rfl, hbz4⟩
  have hZ4 := below_then HZ3.out hbz4
  have HZ4 := Lib.hid hZ4
  have hF1 := (hZ4.block _ (lt_of_block HE1.out)).trans HE1.out
  have hF2 := (hZ4.block _ (lt_of_block HE2.out)).trans HE2.out
  clear c10 c11 c20 c21
  obtain ⟨c10, c11, -, -⟩ := two_cells hF1
  obtain ⟨c20, c21, -, -⟩ := two_cells hF2
  clear hF1 hF2 hZ4 hbz4 HQA3
  have HQB4 := Lib.hid (HQB.out z4 HZ4.out)
  clear HQB
  go_wp2_with fail
  refine HQB4.out.mono ?_
  rintro e z5 ⟨rfl, hbz5⟩
  have hZ5 := below_then HZ4.out hbz5
  have HZ5 := Lib.hid hZ5
  have hF1 := (hZ5.block _ (lt_of_block HE1.out)).trans HE1.out
  have hF2 := (hZ5.block _ (lt_of_block HE2.out)).trans HE2.out
  clear c10 c11 c20 c21
  obtain ⟨c10, c11, -, -⟩ := two_cells hF1
  obtain ⟨c20, c21, -, -⟩ := two_cells hF2
  clear hF1 hF2 hZ5 hbz5 HQB4
  have hqe : ((c1.v.len : Int) == (c2.v.len : Int)) = true := by have := HLQ.out; simp [this]
  have HB5 := Lib.hid (below_then HBX.out HZ5.out)
  clear HBX
  go_wp2_with fail
  exact HP.out _ HB5.out
end Go.Proofs.Ytcejamblndilbaa
