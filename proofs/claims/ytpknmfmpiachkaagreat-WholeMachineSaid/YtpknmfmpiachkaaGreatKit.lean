/- Rows, worlds kept (out of rlog's texts). -/
import Derived.Test.YtpknmfmpiachkaaGreatBase
namespace Go.Proofs.YtpknmfmpiachkaaGreat
open Go.RowKit
def RowN (w : World) (a : Option Addr) (size n : Nat) (vs : List Value) : Prop :=
 vs.length = n * size ∧ (0 < n → ∃ b off, a = some ⟨b, off, none⟩ ∧ ∀ (j : Nat) (u : Value), vs[j]? = some u → w.cell? ⟨b, off + j, none⟩ = some u)
theorem add_plain (b off j : Nat) : (⟨b, off, none⟩ : Addr).add j = ⟨b, off + j, none⟩ := by unfold Addr.add; split <;> simp_all
theorem RowN.nil (w : World) (a : Option Addr) (size : Nat) : RowN w a size 0 [] := ⟨by simp, fun h => absurd h (by omega)⟩
theorem RowN.below {w w' : World} {a : Option Addr} {size n : Nat} {vs : List Value} (h : RowN w a size n vs) (hb : Below w.heap.size w w') : RowN w' a size n vs := by
 refine ⟨h.1, fun hn => ?_⟩
 obtain ⟨b, off, ha, hc⟩ := h.2 hn
 exact ⟨b, off, ha, fun j u hu => (hb.cell (p := ⟨b, off + j, none⟩) (World.block_lt_of_cell? w _ (hc j u hu))).trans (hc j u hu)⟩
theorem RowN.alloc {w : World} {a : Option Addr} {size n : Nat} {vs : List Value} (h : RowN w a size n vs) (o : Obj) : RowN (w.alloc o) a size n vs :=
 h.below ((Below.refl _ _).alloc (Nat.le_refl _) _)
theorem RowN.drewN {w : World} {a : Option Addr} {size n : Nat} {vs : List Value} (h : RowN w a size n vs) (k : Nat) : RowN (w.drewN k) a size n vs := h
theorem RowN.grown {w w' : World} {a : Option Addr} {size n : Nat} {vs : List Value} {row : Option Nat} (h : RowN w a size n vs) (hg : w.grownBy w' row) (hd : ∀ b off, a = some ⟨b, off, none⟩ → row ≠ some b) : RowN w' a size n vs := by
 refine ⟨h.1, fun hn => ?_⟩
 obtain ⟨b, off, ha, hc⟩ := h.2 hn
 exact ⟨b, off, ha, fun j u hu => hg.cell (hc j u hu) (fun e => hd b off ha e.symm)⟩
theorem RowN.news {w : World} {a : Option Addr} {size n : Nat} {vs : List Value} (h : RowN w a size n vs) : 0 < n → ∃ ad, a = some ad ∧ ∀ j u, vs[j]? = some u → w.cell? (ad.add j) = some u := by
 intro hn
 obtain ⟨b, off, ha, hc⟩ := h.2 hn
 exact ⟨_, ha, fun j u hu => by rw [add_plain]; exact hc j u hu⟩
theorem RowN.at {w : World} {a : Option Addr} {size n : Nat} {vs : List Value} (h : RowN w a size n vs) (j : Nat) (hj : j < n * size) :
 ∃ b off, a = some ⟨b, off, none⟩ ∧ w.cell? ⟨b, off + j, none⟩ = some (vs[j]'(by rw [h.1]; exact hj)) := by
 have hn : 0 < n := by
  rcases Nat.eq_zero_or_pos n with h0 | h0
  · subst h0; omega
  · exact h0
 obtain ⟨b, off, ha, hc⟩ := h.2 hn
 exact ⟨b, off, ha, hc j _ (List.getElem?_eq_getElem (by rw [h.1]; exact hj))⟩
theorem RowN.of_block {w : World} {b n size : Nat} {cs : Array Value} {e : TypeId} {fr : Nat × Nat} {vs : List Value} (h : w.heap[b]? = some (.cells cs e fr)) (hl : vs.length = n * size) (hcs : cs.toList.take vs.length = vs) : RowN w (some ⟨b, 0, none⟩) size n vs := by
 refine ⟨hl, fun _ => ⟨b, 0, rfl, fun j u hu => ?_⟩⟩
 have hj : j < vs.length := (List.getElem?_eq_some_iff.1 hu).1
 rw [← hcs, List.getElem?_take, if_pos hj] at hu
 simp only [World.cell?, h, Nat.zero_add]
 simpa using hu
theorem RowN.of_own {w : World} {base : Nat} {e : TypeId} {size : Nat} {ao : Option Addr} {n cap : Nat} {vs : List Value} (h : w.ownsRow base e size (.slice ao n cap) n vs) : RowN w ao size n vs := by
 rcases h.2 with ⟨hv, h0⟩ | ⟨g, cp, cur, hv, _, hg, _, _, _, htake⟩
 · subst h0
   exact ⟨h.1, fun hn => absurd hn (by omega)⟩
 · simp only [Value.slice.injEq, true_and] at hv
   obtain ⟨rfl, rfl⟩ := hv
   exact RowN.of_block hg h.1 (by rw [h.1]; exact htake)
theorem own_cap {w : World} {base : Nat} {e : TypeId} {size : Nat} {ao : Option Addr} {n cap : Nat} {vs : List Value} (h : w.ownsRow base e size (.slice ao n cap) n vs) : n ≤ cap ∧ cap ≤ maxLen ∧ (ao = none → cap = 0) := by
 rcases h.2 with ⟨hv, h0⟩ | ⟨g, cp, cur, hv, _, hg, h1, h2, _⟩
 · simp only [Value.slice.injEq] at hv
   obtain ⟨_, rfl, rfl⟩ := hv
   simp [maxLen]
 · simp only [Value.slice.injEq, true_and] at hv
   obtain ⟨rfl, rfl⟩ := hv
   exact ⟨h1, h2, fun h => by cases h⟩
theorem own_below {w w' : World} {base B : Nat} {e : TypeId} {size : Nat} {v : Value} {n : Nat} {vs : List Value} (h : w.ownsRow base e size v n vs) (hb : Below B w w') (hB : w.heap.size ≤ B) : w'.ownsRow base e size v n vs := by
 refine ⟨h.1, ?_⟩
 rcases h.2 with hv | ⟨g, cp, cur, hv, hbg, hg, r⟩
 · exact .inl hv
 · exact .inr ⟨g, cp, cur, hv, hbg, by rw [hb.block g (Nat.lt_of_lt_of_le (Array.getElem?_eq_some_iff.1 hg).1 hB)]; exact hg, r⟩
structure Sl where
 a : Option Addr
 len : Nat
 cap : Nat
 bs : List UInt8
def Sl.val (s : Sl) : Value := .slice s.a s.len s.cap
def Sl.ok (w : World) (s : Sl) : Prop := Row8 w s.a s.len s.bs ∧ s.len ≤ s.cap ∧ s.cap ≤ maxLen ∧ (s.a = none → s.cap = 0)
theorem Sl.ok.below {w w' : World} {s : Sl} (h : s.ok w) (hb : Below w.heap.size w w') : s.ok w' := ⟨h.1.below hb, h.2⟩
theorem grown_step {w w1 w2 : World} {r r1 : Option Nat} (h : w.grownBy w1 r) (h1 : w1.grownBy w2 r1) (hr : r1 = r ∨ ∃ g, r1 = some g ∧ w.heap.size ≤ g) : w.grownBy w2 r :=
 ⟨h1.os.trans h.os, h1.tape.trans h.tape, h1.output.trans h.output, Nat.le_trans h.size h1.size, fun k hk hne => by
  rw [h1.block k (Nat.lt_of_lt_of_le hk h.size) (by
   rcases hr with rfl | ⟨g, rfl, hg⟩
   · exact hne
   · intro e; injection e; omega), h.block k hk hne]⟩
theorem grown_set (w : World) (R : Nat) (o : Nat) (v : Value) : w.grownBy (w.setCell ⟨R, o, none⟩ v) (some R) :=
 ⟨rfl, rfl, rfl, by simp [World.setCell], fun k _ hne => Below.heap_setCell w _ v k (fun e => hne (by rw [e]))⟩
theorem Row8.set {w : World} {a : Option Addr} {len : Nat} {bs : List UInt8} (h : Row8 w a len bs) {R o : Nat} (v : Value) (hd : ∀ b off, a = some ⟨b, off, none⟩ → 0 < len → b ≠ R) : Row8 (w.setCell ⟨R, o, none⟩ v) a len bs := by
 refine ⟨h.1, fun i hi => ?_⟩
 obtain ⟨b, off, ha, hc⟩ := h.2 i hi
 refine ⟨b, off, ha, ?_⟩
 rw [World.cell?_setCell_other _ _ _ _ (by intro e; injection e with e1 _; exact hd b off ha (by omega) e1.symm)]
 exact hc
theorem Row8.take {w : World} {a : Option Addr} {len : Nat} {bs : List UInt8} (h : Row8 w a len bs) (k : Nat) (hk : k ≤ len) : Row8 w a k (bs.take k) := by
 refine ⟨by rw [List.length_take, h.1]; omega, fun i hi => ?_⟩
 obtain ⟨b, off, ha, hc⟩ := h.2 i (by omega)
 refine ⟨b, off, ha, ?_⟩
 rw [List.getD_eq_getElem?_getD, List.getElem?_take, if_pos hi, ← List.getD_eq_getElem?_getD]
 exact hc
structure Touch (S : List Nat) (w w' : World) : Prop where
 os : w'.os = w.os
 tape : w'.tape = w.tape
 output : w'.output = w.output
 size : w.heap.size ≤ w'.heap.size
 block : ∀ k, k < w.heap.size → k ∉ S → w'.heap[k]? = w.heap[k]?
theorem Touch.refl (S : List Nat) (w : World) : Touch S w w := ⟨rfl, rfl, rfl, Nat.le_refl _, fun _ _ _ => rfl⟩
theorem Touch.trans {S : List Nat} {a b c : World} (h : Touch S a b) (k : Touch S b c) : Touch S a c :=
 ⟨k.os.trans h.os, k.tape.trans h.tape, k.output.trans h.output, Nat.le_trans h.size k.size, fun i hi hn => (k.block i (Nat.lt_of_lt_of_le hi h.size) hn).trans (h.block i hi hn)⟩
theorem Touch.of_grown {S : List Nat} {w w' : World} {R : Nat} (h : w.grownBy w' (some R)) (hR : R ∈ S) : Touch S w w' :=
 ⟨h.os, h.tape, h.output, h.size, fun k hk hn => h.block k hk (fun e => hn (by injection e with e; rw [e]; exact hR))⟩
theorem Touch.set {S : List Nat} (w : World) (b o : Nat) (v : Value) (hb : b ∈ S) : Touch S w (w.setCell ⟨b, o, none⟩ v) := Touch.of_grown (grown_set w b o v) hb
theorem Touch.alloc (S : List Nat) (w : World) (o : Obj) : Touch S w (w.alloc o) := ⟨rfl, rfl, rfl, by simp, fun _ hk _ => heap_alloc_old w o hk⟩
theorem Touch.of_below {S : List Nat} {w w' : World} (h : Below w.heap.size w w') : Touch S w w' := ⟨h.os, h.tape, h.output, h.size, fun k hk _ => h.block k hk⟩
theorem Touch.mono {S T : List Nat} {w w' : World} (h : Touch S w w') (hs : ∀ k, k ∈ S → k ∈ T) : Touch T w w' := ⟨h.os, h.tape, h.output, h.size, fun k hk hn => h.block k hk fun hi => hn (hs k hi)⟩
theorem Touch.below {S : List Nat} {a w w' : World} {B : Nat} (h : Touch S w w') (hb : Below B a w) (hB : B ≤ w.heap.size) (hS : ∀ k ∈ S, B ≤ k) : Below B a w' :=
 hb.trans ⟨h.os, h.tape, h.output, h.size, fun k hk => h.block k (by omega) (fun hi => by have := hS k hi; omega)⟩
theorem own_keep {w w' : World} {base : Nat} {e : TypeId} {size : Nat} {v : Value} {n : Nat} {xs : List Value} (h : w.ownsRow base e size v n xs) (hk : ∀ g, v.ownBlock = some g → g < w.heap.size → w'.heap[g]? = w.heap[g]?) : w'.ownsRow base e size v n xs := by
 refine ⟨h.1, ?_⟩
 rcases h.2 with hv | ⟨g, cp, cur, rfl, hbg, hg, r⟩
 · exact .inl hv
 · exact .inr ⟨g, cp, cur, rfl, hbg, (hk g rfl (Array.getElem?_eq_some_iff.1 hg).1).trans hg, r⟩
theorem Touch.grown {S : List Nat} {w w1 w2 : World} {row : Option Nat} (h : Touch S w w1) (hg : w1.grownBy w2 row) (hr : ∀ g, row = some g → w.heap.size ≤ g) : Touch S w w2 :=
 ⟨hg.os.trans h.os, hg.tape.trans h.tape, hg.output.trans h.output, Nat.le_trans h.size hg.size, fun k hk hn => (hg.block k (Nat.lt_of_lt_of_le hk h.size) (fun e => by have := hr k e.symm; omega)).trans (h.block k hk hn)⟩
theorem RowN.touch {S : List Nat} {w w' : World} {a : Option Addr} {size n : Nat} {vs : List Value} (h : RowN w a size n vs) (ht : Touch S w w') (hd : ∀ b off, a = some ⟨b, off, none⟩ → 0 < n * size → b ∉ S) : RowN w' a size n vs := by
 refine ⟨h.1, fun hn => ?_⟩
 obtain ⟨b, off, rfl, hc⟩ := h.2 hn
 refine ⟨b, off, rfl, fun j u hu => ?_⟩
 have h1 := hc j u hu
 have hj : j < n * size := by rw [← h.1]; exact (List.getElem?_eq_some_iff.1 hu).1
 rw [World.cell?_of_block (ht.block b (World.block_lt_of_cell? w _ h1) (hd b off rfl (by omega)))]
 exact h1
theorem own_more {w : World} {base base' : Nat} {e : TypeId} {size : Nat} {v : Value} {n : Nat} {xs : List Value} (h : w.ownsRow base e size v n xs) (hb : base' ≤ base) : w.ownsRow base' e size v n xs := by
 refine ⟨h.1, ?_⟩
 rcases h.2 with hv | ⟨g, cp, cur, hv, hbg, r⟩
 · exact .inl hv
 · exact .inr ⟨g, cp, cur, hv, by omega, r⟩
theorem RowN.new2 (w : World) (o : Obj) (cs : Array Value) (e : TypeId) (size n H : Nat) (vs : List Value) (hl : vs.length = n * size) (hcs : cs.toList.take vs.length = vs) (hH : H = w.heap.size + 1) : RowN ((w.alloc o).alloc (.cells cs e)) (some ⟨H, 0, none⟩) size n vs := by
 have := RowN.of_block (size := size) (n := n) (heap_alloc_new (w.alloc o) (.cells cs e)) hl hcs
 rw [World.size_alloc, ← hH] at this
 exact this
theorem RowN.newH (w : World) (cs : Array Value) (e : TypeId) (size n H : Nat) (vs : List Value) (hl : vs.length = n * size) (hcs : cs.toList.take vs.length = vs) (hH : H = w.heap.size) : RowN (w.alloc (.cells cs e)) (some ⟨H, 0, none⟩) size n vs := by
 subst hH
 exact RowN.of_block (heap_alloc_new w _) hl hcs
theorem set_block {w : World} {g i : Nat} {cs : Array Value} {t : TypeId} {fr : Nat × Nat} (h : w.heap[g]? = some (.cells cs t fr)) (v : Value) : (w.setCell ⟨g, i, none⟩ v).heap[g]? = some (.cells (cs.setIfInBounds i v) t fr) := by
 unfold World.setCell
 simp [Array.getElem?_modify, h]
theorem results_cell {fn : Func} {p : Tmp} {ty : TypeId} (h : fn.results = #[.cell p ty]) {tmps : Array Value} {P : Program} {w : World} {a : Addr} {v : Value} {w' : World} (ha : tmps.getD p undef = .pointer (some a)) (hl : (loadVar ty a).run P w = .ok v w') : (results fn tmps).run P w = .ok v w' := by
 have h1 : (asAddr (tmps.getD p undef)).run P w = .ok a w := by rw [ha]; rfl
 have e : (results fn tmps).run P w = ((asAddr (tmps.getD p undef)).run P w).andThen fun a w₁ => (loadVar ty a).run P w₁ := by
  simp only [results, h]
  simp [Sem.run_bind, Result.andThen]
 rw [e, h1]
 exact hl
theorem results_cell_tmp {fn : Func} {p q : Tmp} {ty : TypeId} (h : fn.results = #[.cell p ty, .tmp q]) {tmps : Array Value} {P : Program} {w : World} {a : Addr} {v : Value} (ha : tmps.getD p undef = .pointer (some a)) (hl : (loadVar ty a).run P w = .ok v w) : (results fn tmps).run P w = .ok (.tuple #[v, tmps.getD q undef]) w := by
 have h1 : (asAddr (tmps.getD p undef)).run P w = .ok a w := by rw [ha]; rfl
 have e : (results fn tmps).run P w = ((asAddr (tmps.getD p undef)).run P w).andThen fun a w₁ => ((loadVar ty a).run P w₁).andThen fun v w₂ => .ok (.tuple #[v, tmps.getD q undef]) w₂ := by
  simp only [results, h]
  simp [Sem.run_bind, Result.andThen]
 rw [e, h1]
 simp only [Result.andThen_ok, hl]
def RetEq (w : World) (a : Value) (e : Ending) (w' : World) : Prop := e = .returned a ∧ w = w'
def RetTwo (w : World) (a b : Value) (e : Ending) (w' : World) : Prop := e = .returned (.tuple #[a, b]) ∧ w = w'
def SameW (a b : World) : Prop := a = b
end Go.Proofs.YtpknmfmpiachkaaGreat
