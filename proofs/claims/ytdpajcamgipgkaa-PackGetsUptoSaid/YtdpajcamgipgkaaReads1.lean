/- PackReads: the function that reads values one by one. -/
import Derived.Test.YtdpajcamgipgkaaBack
namespace Go.Proofs.Ytdpajcamgipgkaa
open Go.RowKit

def rdAcc : List Int → List UInt8 → List Pv → Except Nat (List Pv × List UInt8)
  | [], bs, acc => .ok (acc, bs)
  | k :: ks, bs, acc => if badKind k = true then .error 1 else
    match getVal k bs with
    | none => .error 30
    | some (p, r) => rdAcc ks r (acc ++ [p])

theorem rdAcc_good (zs : List Int) (h : ∀ z ∈ zs, badKind z = false) : ∀ bs acc, rdAcc zs bs acc = match getAcc zs bs acc with
    | none => .error 30
    | some q => .ok q := by
  induction zs with
  | nil => intro bs acc; rfl
  | cons z r ih =>
    intro bs acc
    rw [rdAcc, getAcc, if_neg (by rw [h z (List.mem_cons_self ..)]; simp)]
    cases getVal z bs with
    | none => rfl
    | some q => exact ih (fun x hx => h x (List.mem_cons_of_mem _ hx)) _ _
theorem rdAcc_bad (zs : List Int) (h : zs.any badKind = true) : ∀ bs acc, rdAcc zs bs acc = .error 1 ∨ rdAcc zs bs acc = .error 30 := by
  induction zs with
  | nil => cases h
  | cons z r ih =>
    intro bs acc
    rw [rdAcc]
    by_cases hz : badKind z = true
    · rw [if_pos hz]; exact .inl rfl
    · rw [if_neg hz]
      have h' : r.any badKind = true := by simpa [hz] using h
      cases getVal z bs with
      | none => exact .inr rfl
      | some q => exact ih h' _ _

theorem RowN.newH (w : World) (cs : Array Value) (e : TypeId) (size n H : Nat) (vs : List Value) (hl : vs.length = n * size) (hcs : cs.toList.take vs.length = vs) (hH : H = w.heap.size) : RowN (w.alloc (.cells cs e)) (some ⟨H, 0, none⟩) size n vs := by
  subst hH
  exact RowN.of_block (heap_alloc_new w _) hl hcs

/-- the slice that is built: the call's own, or still empty with no room -/
def Out (w : World) (base : Nat) (vs : List Vl) (ao : Option Addr) (n cap : Nat) : Prop := OwnVals w base vs ao n cap ∨ (vs = [] ∧ n = 0 ∧ cap = 0)
theorem Out.keep {w w' : World} {base : Nat} {vs : List Vl} {ao : Option Addr} {n cap : Nat} (h : Out w base vs ao n cap) (hk : ∀ g, base ≤ g → g < w.heap.size → w'.heap[g]? = w.heap[g]?) : Out w' base vs ao n cap := by
  rcases h with h | h
  · exact .inl (h.keep hk)
  · exact .inr h
theorem Out.len {w : World} {base : Nat} {vs : List Vl} {ao : Option Addr} {n cap : Nat} (h : Out w base vs ao n cap) : vs.length = n := by
  rcases h with h | ⟨rfl, rfl, _⟩
  · exact h.len
  · rfl
theorem Out.row {w : World} {base : Nat} {vs : List Vl} {ao : Option Addr} {n cap : Nat} (h : Out w base vs ao n cap) : RowN w ao 5 n (vs.flatMap Vl.cells) := by
  rcases h with h | ⟨rfl, rfl, _⟩
  · exact RowN.of_own h.row
  · exact RowN.nil _ _ _
theorem Out.own {w : World} {base : Nat} {vs : List Vl} {ao : Option Addr} {n cap : Nat} (h : Out w base vs ao n cap) : ∀ v ∈ vs, Own8 w base v.s.a v.s.len v.s.cap v.s.bs := by
  rcases h with h | ⟨rfl, _, _⟩
  · exact h.own
  · intro v hv; cases hv
theorem Out.snoc {w w' : World} {base : Nat} {vs : List Vl} {ao ao' : Option Addr} {n cap cap' : Nat} {v : Vl} {row : Option Nat} (h : Out w base vs ao n cap) (hv : Own8 w base v.s.a v.s.len v.s.cap v.s.bs)
    (hrow : w'.ownsRow base 63 5 (.slice ao' (n + 1) cap') (n + 1) (vs.flatMap Vl.cells ++ v.cells)) (hg : w.grownBy w' row) (hr : ∀ g, row = some g → w.ownsRow base 63 5 (.slice ao n cap) n (vs.flatMap Vl.cells) ∧ Value.ownBlock (.slice ao n cap) = some g) : OwnVals w' base (vs ++ [v]) ao' (n + 1) cap' := by
  have k : ∀ u : Vl, Own8 w base u.s.a u.s.len u.s.cap u.s.bs → Own8 w' base u.s.a u.s.len u.s.cap u.s.bs := fun u hu => own_keep hu fun g hb hl => hg.block g hl fun e => by
    obtain ⟨h1, h2⟩ := hr g e.symm
    exact own_apart hu h1 (by decide) g hb h2
  refine ⟨by rw [List.length_append, h.len]; rfl, ?_, fun u hu => ?_⟩
  · rw [List.flatMap_append]
    simpa using hrow
  · rcases List.mem_append.1 hu with hu | hu
    · exact k u (h.own u hu)
    · rw [List.mem_singleton] at hu
      subst hu
      exact k u hv

/-- an append to it -/
theorem wpList_appendOut {w : World} {ops : Array Oper} {rest : List Oper} {o : Oper} {a : Act} {Q : Exit → Act → World → Prop} (hgd : o.guard = none) (s x : Operand)
    (ho : o.op = .call { callee := .builtin .append, args := #[s, x], argTypes := #[48, 48] })
    (base : Nat) (ao : Option Addr) (n cap : Nat) (vs : List Vl) (hs : a.eval s = .slice ao n cap) (hown : Out w base vs ao n cap)
    (ax : Addr) (v : Vl) (hx : a.eval x = .slice (some ax) 1 1) (hrow : RowN w (some ax) 5 1 v.cells) (hbig : n + 1 ≤ 1000000000000) (hbase : base ≤ w.heap.size)
    (h : ∀ ao' cap' w' row, w'.ownsRow base 63 5 (.slice ao' (n + 1) cap') (n + 1) (vs.flatMap Vl.cells ++ v.cells) → w.grownBy w' row → (∀ g, row = some g → w.ownsRow base 63 5 (.slice ao n cap) n (vs.flatMap Vl.cells) ∧ Value.ownBlock (.slice ao n cap) = some g) → wpList Try.prog ops Q rest (a.put o.dst (.slice ao' (n + 1) cap')) w') : wpList Try.prog ops Q (o :: rest) a w := by
  rcases hown with hown | ⟨rfl, rfl, rfl⟩
  · exact wpList_appendVal hgd s x ho base ao n cap (vs.flatMap Vl.cells) hs hown.row (some ax) 1 1 v.cells hx hrow (fun h => by cases h) (cells_one5 v) hbig hbase (n + 1) rfl fun ao' cap' w' h1 h2 _ => h ao' cap' w' _ h1 h2 fun g hg => ⟨hown.row, hg⟩
  · obtain ⟨i0, hi, hz0, hz1, hz2⟩ := info_parts info_val
    obtain ⟨ad, had, hcell⟩ := hrow.news (by omega)
    injection had with had
    subst had
    refine wpList_append_grows w hgd s x _ ho 63 i0 _ 5 56 Try.underlying48 hi hz0 hz1 hz2 rfl (by decide) ao 0 0 [] hs (fun _ => ⟨rfl, rfl⟩) rfl (fun b _ j u hu => by simp at hu) ax 1 1 v.cells hx rfl hcell (cells_one5 v) (by omega) (by simp only [maxLen]; omega) (by omega) fun v' w' h1 h2 => ?_
    obtain ⟨g, cap, rfl, _, _⟩ := World.ownsRow.form h1 (by omega)
    exact h _ _ w' none (own_more h1 hbase) h2 (fun g hg => by cases hg)

/-- one value more -/
theorem rd_step {w wr w2 w3 : World} {R K k i cap cap3 : Nat} {row : Option Nat} {ao ao3 : Option Addr} {vs : List Vl} {o e : Obj} {u : Value} {r : List UInt8} {v : Vl} (hRK : R ≠ K) (hKl : K < w.heap.size) (hRl : R < w.heap.size) (hT : Touch [R, K] w wr)
    (hKr : wr.heap[K]? = some (.cells #[.slice ao k cap] 48 (0, 0))) (hO : Out wr w.heap.size vs ao k cap) (hg2 : (wr.alloc o).grownBy w2 (some R)) (hrd2 : Rd w2 R r)
    (hg3 : ((w2.setCell ⟨wr.heap.size, i, none⟩ u).alloc e).grownBy w3 row) (hrow : ∀ g, row = some g → ((w2.setCell ⟨wr.heap.size, i, none⟩ u).alloc e).ownsRow w.heap.size 63 5 (.slice ao k cap) k (vs.flatMap Vl.cells) ∧ Value.ownBlock (.slice ao k cap) = some g)
    (hown3 : w3.ownsRow w.heap.size 63 5 (.slice ao3 (k + 1) cap3) (k + 1) (vs.flatMap Vl.cells ++ v.cells))
    (hv : Own8 w2 (wr.heap.size + 1) v.s.a v.s.len v.s.cap v.s.bs) :
    w3.heap[K]? = some (.cells #[.slice ao k cap] 48 (0, 0)) ∧ Touch [R, K] w (w3.setCell ⟨K, 0, none⟩ (.slice ao3 (k + 1) cap3)) ∧ Rd (w3.setCell ⟨K, 0, none⟩ (.slice ao3 (k + 1) cap3)) R r ∧
    Out (w3.setCell ⟨K, 0, none⟩ (.slice ao3 (k + 1) cap3)) w.heap.size (vs ++ [v]) ao3 (k + 1) cap3 := by
  have hzw := hT.size
  have hz2 := hg2.size
  rw [World.size_alloc] at hz2
  have hrb : ∀ g, row = some g → w.heap.size ≤ g := fun g hg => ((hrow g hg).1.lt g (hrow g hg).2).1
  have hset : ∀ g, g ≠ wr.heap.size → (w2.setCell ⟨wr.heap.size, i, none⟩ u).heap[g]? = w2.heap[g]? := fun g hg => Below.heap_setCell w2 _ u g hg
  have hsz : (w2.setCell ⟨wr.heap.size, i, none⟩ u).heap.size = w2.heap.size := by simp [World.setCell]
  have hmid : ∀ g, g < w2.heap.size → g ≠ wr.heap.size → ((w2.setCell ⟨wr.heap.size, i, none⟩ u).alloc e).heap[g]? = w2.heap[g]? := fun g hg hn => (heap_alloc_old _ e (by rw [hsz]; exact hg)).trans (hset g hn)
  have hmz : ((w2.setCell ⟨wr.heap.size, i, none⟩ u).alloc e).heap.size = w2.heap.size + 1 := by rw [World.size_alloc, hsz]
  have hlow : ∀ g, g < w.heap.size → g < w2.heap.size → w3.heap[g]? = w2.heap[g]? := fun g hg hl => (hg3.block g (by omega) (fun h => by have := hrb g h.symm; omega)).trans (hmid g hl (by omega))
  have h2 : ∀ g, g < wr.heap.size → g ≠ R → w2.heap[g]? = wr.heap[g]? := fun g hg hn => (hg2.block g (by rw [World.size_alloc]; omega) (fun h => hn (by injection h))).trans (heap_alloc_old wr o hg)
  have h3K : w3.heap[K]? = some (.cells #[.slice ao k cap] 48 (0, 0)) := (hlow K hKl (by omega)).trans ((h2 K (by omega) (fun h => hRK h.symm)).trans hKr)
  have hOm : Out ((w2.setCell ⟨wr.heap.size, i, none⟩ u).alloc e) w.heap.size vs ao k cap := hO.keep fun g hb hl => (hmid g (by omega) (by omega)).trans (h2 g hl (by omega))
  have hvm : Own8 ((w2.setCell ⟨wr.heap.size, i, none⟩ u).alloc e) w.heap.size v.s.a v.s.len v.s.cap v.s.bs := own_more (own_keep hv fun g hg hl => hmid g hl (by have := (hv.lt g hg).1; omega)) (by omega)
  have hT2 : Touch [R, K] w ((w2.setCell ⟨wr.heap.size, i, none⟩ u).alloc e) := by
    have ha := (hT.trans (Touch.alloc [R, K] wr o)).trans (Touch.of_grown hg2 (by simp))
    exact ((ha.grown (grown_set w2 wr.heap.size i u) (fun g hg => by injection hg; omega))).trans (Touch.alloc _ _ _)
  refine ⟨h3K, (hT2.grown hg3 hrb).trans (Touch.set _ _ _ _ (by simp)), ?_, .inl ((hOm.snoc hvm hown3 hg3 hrow).keep fun g hb hl => Below.heap_setCell w3 _ _ g (by simp; omega))⟩
  exact Rd.setOther (Rd.high hrd2 fun j hj hjl => hlow j (by omega) hjl) h3K (fun _ h => by cases h) (fun e => hRK e.symm)

/-- what the function leaves -/
def RdPost (w : World) (R K F : Nat) (res : Except Nat (List Pv × List UInt8)) (e : Ending) (w' : World) : Prop :=
  Touch [R, K, F] w w' ∧ (∀ ps r, res = .ok (ps, r) → e = .returned (.tuple #[]) ∧ Rd w' R r ∧ w'.heap[F]? = some (.cells #[.bool true] 4 (0, 0)) ∧ ∃ vs ao n cap, vs.map Vl.pv = ps ∧ w'.heap[K]? = some (.cells #[.slice ao n cap] 48 (0, 0)) ∧ Out w' w.heap.size vs ao n cap) ∧
  (∀ c, res = .error c → e = Wrong (c : Nat) ∧ Touch [R, K] w w')
theorem RdPost.mk_no {w : World} {R K F c : Nat} {res : Except Nat (List Pv × List UInt8)} {e : Ending} {w' : World} (ht : Touch [R, K] w w') (he : e = Wrong (c : Nat)) (hr : res = .error c) : RdPost w R K F res e w' :=
  ⟨ht.mono (fun k hk => by simp at hk ⊢; omega), (fun _ _ h => by rw [hr] at h; cases h), fun c' h => by rw [hr] at h; injection h with h; subst h; exact ⟨he, ht⟩⟩

set_option maxRecDepth 100000 in
set_option maxHeartbeats 6400000 in
theorem reads1_any (R Z K F : Nat) (az a0 : Option Addr) (nz cz : Nat) (zs : List Int) (bs : List UInt8) (w : World) (hr : Rd w R bs) (hZ : w.heap[Z]? = some (.cells #[.slice az nz cz] 55 (0, 0))) (hK : w.heap[K]? = some (.cells #[.slice a0 0 0] 48 (0, 0)))
    (hF : w.heap[F]? = some (.cells #[.bool false] 4 (0, 0))) (hrow : RowN w az 1 nz (cellsI zs)) (hap : ∀ b off, az = some ⟨b, off, none⟩ → 0 < nz → b ≠ R ∧ b ≠ K) (hRK : R ≠ K) (hFR : F ≠ R) (hFK : F ≠ K) (hnz : nz ≤ 1000000000) :
    Calls Try.prog 42 #[.pointer (some ⟨R, 0, none⟩), .pointer (some ⟨Z, 0, none⟩), .pointer (some ⟨K, 0, none⟩), .pointer (some ⟨F, 0, none⟩)] w (RdPost w R K F (rdAcc zs bs [])) := by
  have hstf := store_float
  have hRl : R < w.heap.size := by obtain ⟨_, _, _, h, _⟩ := hr; exact lt_of_block h
  have hKl : K < w.heap.size := lt_of_block hK
  have hFl : F < w.heap.size := lt_of_block hF
  have hzc := cell_of_one hZ
  have hl : zs.length = nz := by have := hrow.1; rw [cellsI_len] at this; omega
  have HL := Lib.hid hl
  have HR := Lib.hid hr
  have HK := Lib.hid hK
  have HF := Lib.hid hF
  have HROW := Lib.hid hrow
  have HAP := Lib.hid hap
  clear hZ hr hK hrow hap hl hF
  go_enter Try.func42, Try.ntmps42
  go_wp2_with fail
  go_loopw [10] (fun i wr => ∃ (k : Nat) (rest : List UInt8) (vs : List Vl) (ao : Option Addr) (cap : Nat), i = .int .i64 k ∧ k ≤ nz ∧ Hid (rdAcc (zs.drop k) rest (vs.map Vl.pv) = rdAcc zs bs []) ∧ Touch [R, K] w wr ∧ Rd wr R rest ∧ Hid (wr.heap[K]? = some (.cells #[.slice ao k cap] 48 (0, 0))) ∧ Out wr w.heap.size vs ao k cap) (fun i _ => nz - (intOf i).toNat)
  case atStart => exact ⟨0, bs, [], a0, 0, rfl, by omega, rfl, Touch.refl _ _, HR.out, HK.out, Or.inr ⟨rfl, rfl, rfl⟩⟩
  case round =>
    obtain ⟨k, rest, vs, ao, cap, rfl, hk, HA, ht, hrd, hKr, hO⟩ := hrel
    have hzw := ht.size
    have HT := Lib.hid ht
    have HRD := Lib.hid hrd
    have HO := Lib.hid hO
    by_cases hlt : k < nz
    · have hrz := HROW.out.touch ht (fun b off ha hn hS => by
        have := HAP.out b off ha (by omega)
        simp at hS
        omega)
      obtain ⟨b, off, z, rfl, hz, hcz⟩ := cellI_at hrz k hlt
      have hd : zs.drop k = z :: zs.drop (k + 1) := by
        obtain ⟨hlz, rfl⟩ := List.getElem?_eq_some_iff.1 hz
        exact List.drop_eq_getElem_cons hlz
      have HD := Lib.hid hd
      have hkl : (k : Int) < (nz : Int) := by omega
      -- the box
      have hrb : Rd (wr.alloc (.cells #[.int .i64 z, .int .i64 0, .float .f64 0, .slice none 0 0, .bool false] 63)) R rest := hrd.below ((Below.refl _ _).alloc (Nat.le_refl _) _)
      have HRB := Lib.hid hrb
      have hbox : ∀ w2, (wr.alloc (.cells #[.int .i64 z, .int .i64 0, .float .f64 0, .slice none 0 0, .bool false] 63)).grownBy w2 (some R) → w2.heap[wr.heap.size]? = some (.cells #[.int .i64 z, .int .i64 0, .float .f64 0, .slice none 0 0, .bool false] 63 (0, 0)) := fun w2 hg =>
        (hg.block _ (by rw [World.size_alloc]; omega) (fun e => by injection e; omega)).trans (heap_alloc_new wr _)
      have HBOX := Lib.hid hbox
      have hkk : ∀ w2 i u, (wr.alloc (.cells #[.int .i64 z, .int .i64 0, .float .f64 0, .slice none 0 0, .bool false] 63)).grownBy w2 (some R) → (w2.setCell ⟨wr.heap.size, i, none⟩ u).cell? ⟨K, 0, none⟩ = some (.slice ao k cap) := fun w2 i u hg =>
        cell_of_one ((Below.heap_setCell w2 _ u K (by simp; omega)).trans ((hg.block K (by rw [World.size_alloc]; omega) (fun e => hRK (by injection e with e; exact e.symm))).trans ((heap_alloc_old wr _ (by omega)).trans hKr.out)))
      have HKK := Lib.hid hkk
      have hoo : ∀ w2 i u o, (wr.alloc (.cells #[.int .i64 z, .int .i64 0, .float .f64 0, .slice none 0 0, .bool false] 63)).grownBy w2 (some R) → Out ((w2.setCell ⟨wr.heap.size, i, none⟩ u).alloc o) w.heap.size vs ao k cap := fun w2 i u o hg => by
        have hz2 := hg.size
        rw [World.size_alloc] at hz2
        exact HO.out.keep fun g hb hl => (heap_alloc_old _ o (by simp [World.setCell]; omega)).trans ((Below.heap_setCell w2 _ u g (by simp; omega)).trans ((hg.block g (by rw [World.size_alloc]; omega) (fun e => by injection e; omega)).trans (heap_alloc_old wr _ hl)))
      have HOO := Lib.hid hoo
      clear hd hz hrz ht hrd hO hrb hbox hkk hoo
      by_cases hbad : badKind z = true
      · have he : rdAcc zs bs [] = .error 1 := by rw [← HA.out, HD.out, rdAcc, if_pos hbad]
        have HE := Lib.hid he
        have hzz : (z == 1) = false ∧ (z == 2) = false ∧ (z == 3) = false ∧ (z == 4) = false := by
          simp [badKind] at hbad
          refine ⟨?_, ?_, ?_, ?_⟩ <;> (simp; omega)
        obtain ⟨z1, z2, z3, z4⟩ := hzz
        clear he hbad
        go_wp2_with fail
        refine (fail_any R 1 _).mono ?_
        rintro e w2 ⟨rfl, rfl⟩
        simp only [Wrong]
        go_wp2
        refine ⟨rfl, ?_⟩
        exact RdPost.mk_no (c := 1) (HT.out.trans (Touch.alloc _ _ _)) rfl HE.out
      · have hzg := badKind_no (by simpa using hbad)
        have hcase : z = 1 ∨ z = 2 ∨ z = 3 ∨ z = 4 := by omega
        have hra : ∀ x, getVal z rest = x → rdAcc zs bs [] = match x with
            | none => .error 30
            | some (p, r) => rdAcc (zs.drop (k + 1)) r (vs.map Vl.pv ++ [p]) := fun x hx => by
          rw [← HA.out, HD.out, rdAcc, if_neg hbad, hx]
        have HRA := Lib.hid hra
        clear hbad hzg hra
        rcases hcase with rfl | rfl | rfl | rfl
        · have hc := fun w' (h : Rd w' R rest) => num_any R rest w' h
          cases hg : getNum rest with
          | none =>
            have e : getVal 1 rest = none := by simp [getVal, hg]
            have he := HRA.out _ e
            simp only at he
            rw [hg] at hc
            have HC := Lib.hid hc
            have HE := Lib.hid he
            clear hc hg e he
            go_wp2_with fail
            refine (HC.out _ HRB.out).mono ?_
            intro e w2 hp
            obtain ⟨rfl, hgr⟩ := hp.no rfl
            simp only [Wrong]
            go_wp2
            refine ⟨rfl, ?_⟩
            exact RdPost.mk_no (c := 30) ((HT.out.trans (Touch.alloc _ _ _)).trans (Touch.of_grown hgr (by simp))) rfl HE.out
          | some q =>
            obtain ⟨n, r⟩ := q
            have e : getVal 1 rest = some ((⟨1, n, 0, [], false⟩ : Pv), r) := by simp [getVal, hg]
            have he := HRA.out _ e
            simp only at he
            rw [hg] at hc
            have HC := Lib.hid hc
            have HE := Lib.hid he
            clear hc hg e he
            go_wp2_with fail
            refine (HC.out _ HRB.out).mono ?_
            intro e w2 hp
            obtain ⟨rfl, hrd2, hgr⟩ := hp.ok rfl
            simp only [i64v]
            obtain ⟨a0', a1, a2, a3, a4, f0, f1, f2, f3, f4⟩ := five_cells (HBOX.out w2 hgr)
            have hcs := fun i u => HKK.out w2 i u hgr
            have HGR := Lib.hid hgr
            have HRD2 := Lib.hid hrd2
            clear hp hgr hrd2
            go_wp2_with (at_builtin; refine wpList_appendOut rfl (.tmp 39) (.tmp 41) rfl w.heap.size ao k cap vs rfl (HOO.out w2 _ _ _ HGR.out) ⟨w2.heap.size, 0, none⟩ ⟨1, n, 0, ⟨none, 0, 0, []⟩, false⟩ rfl (RowN.newH _ _ _ 5 1 _ _ rfl rfl (by simp [World.setCell])) (by omega) (by have := HGR.out.size; rw [World.size_alloc] at this; simp [World.setCell]; omega) ?_; intro ao3 cap3 w3 row3 hown3 hg3 hrow3; have h3 := rd_step (v := ⟨1, n, 0, ⟨none, 0, 0, []⟩, false⟩) hRK hKl hRl HT.out hKr.out HO.out HGR.out HRD2.out hg3 hrow3 hown3 (Own8.nil _ _); have hc3 := cell_of_one h3.1; have hf3 := free_of_one h3.1; have H3 := Lib.hid h3; clear h3)
            go_roundw
            case rel =>
              obtain ⟨h3, hT', hR', hO'⟩ := H3.out
              refine ⟨k + 1, r, vs ++ [⟨1, n, 0, ⟨none, 0, 0, []⟩, false⟩], ao3, cap3, by go_num, by omega, ?_, hT', hR', one_setCell h3, hO'⟩
              show _ = _
              rw [List.map_append]
              exact HE.out.symm
            case measure => simp [intOf]; omega
        · have hc := fun w' (h : Rd w' R rest) => key_any R rest w' h
          cases hg : getKey rest with
          | none =>
            have e : getVal 2 rest = none := by simp [getVal, hg]
            have he := HRA.out _ e
            simp only at he
            rw [hg] at hc
            have HC := Lib.hid hc
            have HE := Lib.hid he
            clear hc hg e he
            go_wp2_with fail
            refine (HC.out _ HRB.out).mono ?_
            intro e w2 hp
            obtain ⟨rfl, hgr⟩ := hp.no rfl
            simp only [Wrong]
            go_wp2
            refine ⟨rfl, ?_⟩
            exact RdPost.mk_no (c := 30) ((HT.out.trans (Touch.alloc _ _ _)).trans (Touch.of_grown hgr (by simp))) rfl HE.out
          | some q =>
            obtain ⟨n, r⟩ := q
            have e : getVal 2 rest = some ((⟨2, 0, n, [], false⟩ : Pv), r) := by simp [getVal, hg]
            have he := HRA.out _ e
            simp only at he
            rw [hg] at hc
            have HC := Lib.hid hc
            have HE := Lib.hid he
            clear hc hg e he
            go_wp2_with fail
            refine (HC.out _ HRB.out).mono ?_
            intro e w2 hp
            obtain ⟨rfl, hrd2, hgr⟩ := hp.ok rfl
            simp only [f64v]
            obtain ⟨a0', a1, a2, a3, a4, f0, f1, f2, f3, f4⟩ := five_cells (HBOX.out w2 hgr)
            have hcs := fun i u => HKK.out w2 i u hgr
            have HGR := Lib.hid hgr
            have HRD2 := Lib.hid hrd2
            clear hp hgr hrd2
            go_wp2_with (at_builtin; refine wpList_appendOut rfl (.tmp 39) (.tmp 41) rfl w.heap.size ao k cap vs rfl (HOO.out w2 _ _ _ HGR.out) ⟨w2.heap.size, 0, none⟩ ⟨2, 0, n, ⟨none, 0, 0, []⟩, false⟩ rfl (RowN.newH _ _ _ 5 1 _ _ rfl rfl (by simp [World.setCell])) (by omega) (by have := HGR.out.size; rw [World.size_alloc] at this; simp [World.setCell]; omega) ?_; intro ao3 cap3 w3 row3 hown3 hg3 hrow3; have h3 := rd_step (v := ⟨2, 0, n, ⟨none, 0, 0, []⟩, false⟩) hRK hKl hRl HT.out hKr.out HO.out HGR.out HRD2.out hg3 hrow3 hown3 (Own8.nil _ _); have hc3 := cell_of_one h3.1; have hf3 := free_of_one h3.1; have H3 := Lib.hid h3; clear h3)
            go_roundw
            case rel =>
              obtain ⟨h3, hT', hR', hO'⟩ := H3.out
              refine ⟨k + 1, r, vs ++ [⟨2, 0, n, ⟨none, 0, 0, []⟩, false⟩], ao3, cap3, by go_num, by omega, ?_, hT', hR', one_setCell h3, hO'⟩
              show _ = _
              rw [List.map_append]
              exact HE.out.symm
            case measure => simp [intOf]; omega
        · have hc := fun w' (h : Rd w' R rest) => bytes_any R rest w' h
          cases hg : getBytes rest with
          | none =>
            have e : getVal 3 rest = none := by simp [getVal, hg]
            have he := HRA.out _ e
            simp only at he
            rw [hg] at hc
            have HC := Lib.hid hc
            have HE := Lib.hid he
            clear hc hg e he
            go_wp2_with fail
            refine (HC.out _ HRB.out).mono ?_
            intro e w2 hp
            obtain ⟨rfl, hgr⟩ := hp.no rfl
            simp only [Wrong]
            go_wp2
            refine ⟨rfl, ?_⟩
            exact RdPost.mk_no (c := 30) ((HT.out.trans (Touch.alloc _ _ _)).trans (Touch.of_grown hgr (by simp))) rfl HE.out
          | some q =>
            obtain ⟨n, r⟩ := q
            have e : getVal 3 rest = some ((⟨3, 0, 0, n, false⟩ : Pv), r) := by simp [getVal, hg]
            have he := HRA.out _ e
            simp only at he
            rw [hg] at hc
            have HC := Lib.hid hc
            have HE := Lib.hid he
            clear hc hg e he
            go_wp2_with fail
            refine (HC.out _ HRB.out).mono ?_
            intro e w2 hp
            obtain ⟨v, rfl, ⟨aq, nq, cq, rfl, hown2⟩, hrd2, hgr⟩ := hp.ok rfl
            rw [World.size_alloc] at hown2
            have HOWN2 := Lib.hid hown2
            clear hown2
            obtain ⟨a0', a1, a2, a3, a4, f0, f1, f2, f3, f4⟩ := five_cells (HBOX.out w2 hgr)
            have hcs := fun i u => HKK.out w2 i u hgr
            have HGR := Lib.hid hgr
            have HRD2 := Lib.hid hrd2
            clear hp hgr hrd2
            go_wp2_with (at_builtin; refine wpList_appendOut rfl (.tmp 39) (.tmp 41) rfl w.heap.size ao k cap vs rfl (HOO.out w2 _ _ _ HGR.out) ⟨w2.heap.size, 0, none⟩ ⟨3, 0, 0, ⟨aq, nq, cq, n⟩, false⟩ rfl (RowN.newH _ _ _ 5 1 _ _ rfl rfl (by simp [World.setCell])) (by omega) (by have := HGR.out.size; rw [World.size_alloc] at this; simp [World.setCell]; omega) ?_; intro ao3 cap3 w3 row3 hown3 hg3 hrow3; have h3 := rd_step (v := ⟨3, 0, 0, ⟨aq, nq, cq, n⟩, false⟩) hRK hKl hRl HT.out hKr.out HO.out HGR.out HRD2.out hg3 hrow3 hown3 (HOWN2.out); have hc3 := cell_of_one h3.1; have hf3 := free_of_one h3.1; have H3 := Lib.hid h3; clear h3)
            go_roundw
            case rel =>
              obtain ⟨h3, hT', hR', hO'⟩ := H3.out
              refine ⟨k + 1, r, vs ++ [⟨3, 0, 0, ⟨aq, nq, cq, n⟩, false⟩], ao3, cap3, by go_num, by omega, ?_, hT', hR', one_setCell h3, hO'⟩
              show _ = _
              rw [List.map_append]
              exact HE.out.symm
            case measure => simp [intOf]; omega
        · have hc := fun w' (h : Rd w' R rest) => flag_any R rest w' h
          cases hg : getFlag rest with
          | none =>
            have e : getVal 4 rest = none := by simp [getVal, hg]
            have he := HRA.out _ e
            simp only at he
            rw [hg] at hc
            have HC := Lib.hid hc
            have HE := Lib.hid he
            clear hc hg e he
            go_wp2_with fail
            refine (HC.out _ HRB.out).mono ?_
            intro e w2 hp
            obtain ⟨rfl, hgr⟩ := hp.no rfl
            simp only [Wrong]
            go_wp2
            refine ⟨rfl, ?_⟩
            exact RdPost.mk_no (c := 30) ((HT.out.trans (Touch.alloc _ _ _)).trans (Touch.of_grown hgr (by simp))) rfl HE.out
          | some q =>
            obtain ⟨n, r⟩ := q
            have e : getVal 4 rest = some ((⟨4, 0, 0, [], n⟩ : Pv), r) := by simp [getVal, hg]
            have he := HRA.out _ e
            simp only at he
            rw [hg] at hc
            have HC := Lib.hid hc
            have HE := Lib.hid he
            clear hc hg e he
            go_wp2_with fail
            refine (HC.out _ HRB.out).mono ?_
            intro e w2 hp
            obtain ⟨rfl, hrd2, hgr⟩ := hp.ok rfl
            simp only [boolv]
            obtain ⟨a0', a1, a2, a3, a4, f0, f1, f2, f3, f4⟩ := five_cells (HBOX.out w2 hgr)
            have hcs := fun i u => HKK.out w2 i u hgr
            have HGR := Lib.hid hgr
            have HRD2 := Lib.hid hrd2
            clear hp hgr hrd2
            go_wp2_with (at_builtin; refine wpList_appendOut rfl (.tmp 39) (.tmp 41) rfl w.heap.size ao k cap vs rfl (HOO.out w2 _ _ _ HGR.out) ⟨w2.heap.size, 0, none⟩ ⟨4, 0, 0, ⟨none, 0, 0, []⟩, n⟩ rfl (RowN.newH _ _ _ 5 1 _ _ rfl rfl (by simp [World.setCell])) (by omega) (by have := HGR.out.size; rw [World.size_alloc] at this; simp [World.setCell]; omega) ?_; intro ao3 cap3 w3 row3 hown3 hg3 hrow3; have h3 := rd_step (v := ⟨4, 0, 0, ⟨none, 0, 0, []⟩, n⟩) hRK hKl hRl HT.out hKr.out HO.out HGR.out HRD2.out hg3 hrow3 hown3 (Own8.nil _ _); have hc3 := cell_of_one h3.1; have hf3 := free_of_one h3.1; have H3 := Lib.hid h3; clear h3)
            go_roundw
            case rel =>
              obtain ⟨h3, hT', hR', hO'⟩ := H3.out
              refine ⟨k + 1, r, vs ++ [⟨4, 0, 0, ⟨none, 0, 0, []⟩, n⟩], ao3, cap3, by go_num, by omega, ?_, hT', hR', one_setCell h3, hO'⟩
              show _ = _
              rw [List.map_append]
              exact HE.out.symm
            case measure => simp [intOf]; omega
    · have hke : k = nz := by omega
      subst hke
      have hd : zs.drop k = [] := List.drop_of_length_le (by rw [HL.out]; exact Nat.le_refl _)
      have he : rdAcc zs bs [] = .ok (vs.map Vl.pv, rest) := by rw [← HA.out, hd, rdAcc]
      have hFw : wr.heap[F]? = some (.cells #[.bool false] 4 (0, 0)) := (ht.block F hFl (by simp; omega)).trans HF.out
      have hcF := cell_of_one hFw
      have hfF := free_of_one hFw
      have HE := Lib.hid he
      have HFW := Lib.hid hFw
      clear he hd ht hrd hO hFw
      go_wp2_with fail
      go_end0
      have hst : Touch [R, K, F] wr (wr.setCell ⟨F, 0, none⟩ (.bool true)) := Touch.set _ _ _ _ (by simp)
      refine ⟨(HT.out.mono (fun k hk => by simp at hk ⊢; omega)).trans hst, fun ps r h => ?_, fun c h => by rw [HE.out] at h; cases h⟩
      rw [HE.out] at h
      injection h with h
      injection h with h1 h2
      subst h1 h2
      exact ⟨rfl, Rd.setOther HRD.out HFW.out (fun _ h => by cases h) hFR, one_setCell HFW.out, vs, ao, k, cap, rfl, (Below.heap_setCell wr _ _ K (by simp; omega)).trans hKr.out,
        HO.out.keep fun g hb hl => Below.heap_setCell wr _ _ g (by simp; omega)⟩
end Go.Proofs.Ytdpajcamgipgkaa
