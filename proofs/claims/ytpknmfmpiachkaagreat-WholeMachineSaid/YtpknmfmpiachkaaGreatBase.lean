/- What the walks of this seat share: how a slice of bytes reads. -/
import Derived.Test.YtpknmfmpiachkaaGreatRows
import Derived.WalkKit
import Derived.WalkLawsBesides
import Derived.WalkSpells
import Derived.Lib.Hide
import Derived.Maps.AppendAt
namespace Go.Proofs.YtpknmfmpiachkaaGreat
open Go.RowKit
def Row8 (w : World) (a : Option Addr) (len : Nat) (bs : List UInt8) : Prop :=
 bs.length = len ∧ ∀ i, i < len → ∃ b off, a = some ⟨b, off, none⟩ ∧ w.cell? ⟨b, off + i, none⟩ = some (.int .u8 ((bs.getD i 0).toNat : Nat))
theorem Row8.nil (w : World) (a : Option Addr) : Row8 w a 0 [] := ⟨rfl, fun i h => absurd h (by omega)⟩
theorem Row8.at {w : World} {a : Option Addr} {len : Nat} {bs : List UInt8} (h : Row8 w a len bs) (i : Nat) (hi : i < len) :
 ∃ b off, a = some ⟨b, off, none⟩ ∧ ∃ c : Nat, c < 256 ∧ Hid ((bs.getD i 0).toNat = c) ∧ w.cell? ⟨b, off + i, none⟩ = some (.int .u8 (c : Int)) := by
 obtain ⟨b, off, ha, hc⟩ := h.2 i hi
 exact ⟨b, off, ha, _, (bs.getD i 0).toNat_lt, rfl, hc⟩
theorem Row8.below {w w' : World} {a : Option Addr} {len : Nat} {bs : List UInt8} (h : Row8 w a len bs) (hb : Below w.heap.size w w') : Row8 w' a len bs := by
 refine ⟨h.1, fun i hi => ?_⟩
 obtain ⟨b, off, ha, hc⟩ := h.2 i hi
 exact ⟨b, off, ha, (hb.cell (p := ⟨b, off + i, none⟩) (World.block_lt_of_cell? w ⟨b, off + i, none⟩ hc)).trans hc⟩
theorem Row8.alloc {w : World} {a : Option Addr} {len : Nat} {bs : List UInt8} (h : Row8 w a len bs) (o : Obj) : Row8 (w.alloc o) a len bs :=
 h.below ((Below.refl _ _).alloc (Nat.le_refl _) _)
def cells8 (bs : List UInt8) : List Value := bs.map fun c => Value.int .u8 (c.toNat : Nat)
theorem cells8_at (bs : List UInt8) (i : Nat) (h : i < bs.length) : (cells8 bs)[i]? = some (.int .u8 ((bs.getD i 0).toNat : Nat)) := by
 simp [cells8, List.getElem?_map, List.getElem?_eq_getElem h, List.getD_eq_getElem?_getD]
theorem cells8_one (bs : List UInt8) : ∀ u ∈ cells8 bs, u.oneCell' = true := by
 intro u hu
 obtain ⟨c, _, rfl⟩ := List.mem_map.1 hu
 rfl
theorem cells8_length (bs : List UInt8) : (cells8 bs).length = bs.length := by simp [cells8]
theorem cells8_append (a b : List UInt8) : cells8 (a ++ b) = cells8 a ++ cells8 b := by simp [cells8]
theorem Row8.of_block {w : World} {b : Nat} {cs : Array Value} {e : TypeId} {fr : Nat × Nat} {bs : List UInt8} (h : w.heap[b]? = some (.cells cs e fr)) (hcs : cs.toList.take bs.length = cells8 bs) :
 Row8 w (some ⟨b, 0, none⟩) bs.length bs := by
 refine ⟨rfl, fun i hi => ⟨b, 0, rfl, ?_⟩⟩
 have hx := cells8_at bs i hi
 rw [← hcs, List.getElem?_take, if_pos hi] at hx
 simp only [World.cell?, h, Nat.zero_add]
 simpa using hx
theorem Row8.new (w : World) (cs : Array Value) (e : TypeId) (fr : Nat × Nat) (bs : List UInt8) (n : Nat) (hn : bs.length = n) (hcs : cs.toList.take bs.length = cells8 bs) : Row8 (w.alloc (.cells cs e fr)) (some ⟨w.heap.size, 0, none⟩) n bs := by
 subst hn
 exact Row8.of_block (heap_alloc_new w _) hcs
theorem run_append_row {P : Program} (w : World) (base : Nat) (t ty e : TypeId) (i : TypeInfo) (z : Value) (size bytes : Nat) (ht : P.underlying t = some (.slice e)) (hi : P.info? e = some i) (hz : i.zero = some z)
 (hsize : i.size = size) (hby : i.bytes = bytes) (hzs : z.cells.size = size) (hsz : 0 < size)
 (ao : Option Addr) (n cap : Nat) (xs : List Value) (hown : w.ownsRow base e size (.slice ao n cap) n xs)
 (ax : Option Addr) (m c : Nat) (news : List Value) (hl : news.length = m * size) (hnews : 0 < m → ∃ ad, ax = some ad ∧ ∀ j u, news[j]? = some u → w.cell? (ad.add j) = some u) (hnil : ax = none → c = 0)
 (h1 : ∀ u ∈ news, u.oneCell' = true) (h63 : n + m ≤ maxLen) (hbytes : (n + m) * bytes ≤ 140737488355328) (hbase : base ≤ w.heap.size) :
 ∃ ao' cap' w', (Builtin.append_ #[t, t] ty #[.slice ao n cap, .slice ax m c]).run P w = .ok (.slice ao' (n + m) cap') w' ∧ w'.ownsRow base e size (.slice ao' (n + m) cap') (n + m) (xs ++ news) ∧
  w.grownBy w' (Value.ownBlock (.slice ao n cap)) ∧ (Value.ownBlock (.slice ao' (n + m) cap') = Value.ownBlock (.slice ao n cap) ∨ Value.ownBlock (.slice ao' (n + m) cap') = some w.heap.size) := by
 have fin : ∀ v' w', (Builtin.append_ #[t, t] ty #[.slice ao n cap, .slice ax m c]).run P w = .ok v' w' → w'.ownsRow base e size v' (n + m) (xs ++ news) → w.grownBy w' (Value.ownBlock (.slice ao n cap)) →
  (v'.ownBlock = Value.ownBlock (.slice ao n cap) ∨ v'.ownBlock = some w.heap.size) →
  ∃ ao' cap' w', (Builtin.append_ #[t, t] ty #[.slice ao n cap, .slice ax m c]).run P w = .ok (.slice ao' (n + m) cap') w' ∧ w'.ownsRow base e size (.slice ao' (n + m) cap') (n + m) (xs ++ news) ∧
   w.grownBy w' (Value.ownBlock (.slice ao n cap)) ∧ (Value.ownBlock (.slice ao' (n + m) cap') = Value.ownBlock (.slice ao n cap) ∨ Value.ownBlock (.slice ao' (n + m) cap') = some w.heap.size) := by
  intro v' w' hr ho hg hb
  rcases ho.2 with ⟨rfl, h0⟩ | ⟨g, cp, cur, rfl, _⟩
  · exact ⟨none, 0, w', by rw [hr, h0], by rw [h0] at ho ⊢; exact ho, hg, by rw [h0]; exact hb⟩
  · exact ⟨_, _, w', hr, ho, hg, hb⟩
 rcases Nat.eq_zero_or_pos m with h0 | h0
 · subst h0
   have hn : news = [] := List.eq_nil_of_length_eq_zero (by simpa using hl)
   subst hn
   cases ax with
   | none =>
     have hc := hnil rfl
     subst hc
     exact fin _ _ (run_append_owned_none (P := P) (w := w) base t ty e i size ht hi _ n xs hown) (by simpa using hown) ⟨rfl, rfl, rfl, Nat.le_refl _, fun _ _ _ => rfl⟩ (.inl rfl)
   | some ad =>
     obtain ⟨v', w', hr, h2, h3, _, h5⟩ := run_append_own_at (P := P) w base t ty e i z size bytes ht hi hz hsize hby hzs hsz _ n xs hown ad 0 c [] hl (by intro j u hu; simp at hu) h1 h63 hbytes hbase
     exact fin _ _ hr h2 h3 h5
 · obtain ⟨ad, rfl, hcell⟩ := hnews h0
   obtain ⟨v', w', hr, h2, h3, _, h5⟩ := run_append_own_at (P := P) w base t ty e i z size bytes ht hi hz hsize hby hzs hsz _ n xs hown ad m c news hl hcell h1 h63 hbytes hbase
   exact fin _ _ hr h2 h3 h5
theorem wpList_append_row {P : Program} {w : World} {ops : Array Oper} {rest : List Oper} {o : Oper} {a : Act} {Q : Exit → Act → World → Prop} (hgd : o.guard = none) (s x : Operand) (t : TypeId)
 (ho : o.op = .call { callee := .builtin .append, args := #[s, x], argTypes := #[t, t] })
 (base : Nat) (e : TypeId) (i : TypeInfo) (z : Value) (size bytes : Nat) (ht : P.underlying t = some (.slice e)) (hi : P.info? e = some i) (hz : i.zero = some z)
 (hsize : i.size = size) (hby : i.bytes = bytes) (hzs : z.cells.size = size) (hsz : 0 < size)
 (ao : Option Addr) (n cap : Nat) (xs : List Value) (hs : a.eval s = .slice ao n cap) (hown : w.ownsRow base e size (.slice ao n cap) n xs)
 (ax : Option Addr) (m c : Nat) (news : List Value) (hx : a.eval x = .slice ax m c) (hl : news.length = m * size) (hnews : 0 < m → ∃ ad, ax = some ad ∧ ∀ j u, news[j]? = some u → w.cell? (ad.add j) = some u) (hnil : ax = none → c = 0)
 (h1 : ∀ u ∈ news, u.oneCell' = true) (h63 : n + m ≤ maxLen) (hbytes : (n + m) * bytes ≤ 140737488355328) (hbase : base ≤ w.heap.size) (N : Nat) (hN : n + m = N)
 (h : ∀ ao' cap' w', w'.ownsRow base e size (.slice ao' N cap') N (xs ++ news) → w.grownBy w' (Value.ownBlock (.slice ao n cap)) →
  (Value.ownBlock (.slice ao' N cap') = Value.ownBlock (.slice ao n cap) ∨ Value.ownBlock (.slice ao' N cap') = some w.heap.size) → wpList P ops Q rest (a.put o.dst (.slice ao' N cap')) w') : wpList P ops Q (o :: rest) a w := by
 subst hN
 refine wpList_plain hgd fun K hK => ?_
 obtain ⟨ao', cap', w', hr, h2, h3, h4⟩ := run_append_row (P := P) w base t o.type e i z size bytes ht hi hz hsize hby hzs hsz ao n cap xs hown ax m c news hl hnews hnil h1 h63 hbytes hbase
 unfold Oper.wp execOp
 simp only [ho, resolve, invoke, builtin, Sem.run_bind, Sem.run_pure, Result.andThen_ok, List.map_toArray, List.map_cons, List.map_nil, hs, hx, hr]
 exact hK _ _ (h ao' cap' w' h2 h3 h4)
theorem info_byte : (Tryz.prog.info? 5).map (fun i => (i.zero, i.size, i.bytes)) = some (some (.int .u8 0), 1, 1) := by kernel_rfl
def Own8 (w : World) (base : Nat) (ao : Option Addr) (len cap : Nat) (bs : List UInt8) : Prop := w.ownsRow base 5 1 (.slice ao len cap) len (cells8 bs)
theorem Own8.length {w : World} {base : Nat} {ao : Option Addr} {len cap : Nat} {bs : List UInt8} (h : Own8 w base ao len cap bs) : bs.length = len := by
 have := h.1
 rw [cells8_length] at this
 omega
theorem Own8.row {w : World} {base : Nat} {ao : Option Addr} {len cap : Nat} {bs : List UInt8} (h : Own8 w base ao len cap bs) : Row8 w ao len bs := by
 have hl := h.length
 rcases h.2 with ⟨hv, h0⟩ | ⟨g, cp, cur, hv, _, hg, _, _, _, htake⟩
 · subst h0
   exact ⟨hl, fun i hi => absurd hi (by omega)⟩
 · simp only [Value.slice.injEq, true_and] at hv
   obtain ⟨rfl, rfl⟩ := hv
   subst hl
   exact Row8.of_block hg (by simpa using htake)
theorem Own8.cap {w : World} {base : Nat} {ao : Option Addr} {len cap : Nat} {bs : List UInt8} (h : Own8 w base ao len cap bs) : len ≤ cap ∧ cap ≤ maxLen := by
 rcases h.2 with ⟨hv, h0⟩ | ⟨g, cp, cur, hv, _, hg, h1, h2, _⟩
 · simp only [Value.slice.injEq] at hv
   obtain ⟨_, rfl, rfl⟩ := hv
   simp [maxLen]
 · simp only [Value.slice.injEq, true_and] at hv
   obtain ⟨_, rfl⟩ := hv
   exact ⟨h1, h2⟩
theorem Own8.nocap {w : World} {base : Nat} {ao : Option Addr} {len cap : Nat} {bs : List UInt8} (h : Own8 w base ao len cap bs) : ao = none → cap = 0 := by
 rintro rfl
 rcases h.2 with ⟨hv, h0⟩ | ⟨g, cp, cur, hv, _⟩
 · simp only [Value.slice.injEq] at hv
   exact hv.2.2
 · simp at hv
theorem Own8.block {w : World} {base : Nat} {ao : Option Addr} {len cap : Nat} {bs : List UInt8} (h : Own8 w base ao len cap bs) : ∀ k, Value.ownBlock (.slice ao len cap) = some k → base ≤ k ∧ k < w.heap.size := World.ownsRow.lt h
theorem Own8.at {w : World} {base g len cap : Nat} {bs : List UInt8} (h : Own8 w base (some ⟨g, 0, none⟩) len cap bs) (i : Nat) (hi : i < len) :
 ∃ c : Nat, c < 256 ∧ Hid ((bs.getD i 0).toNat = c) ∧ w.cell? ⟨g, i, none⟩ = some (.int .u8 (c : Int)) ∧ w.frozen? ⟨g, i, none⟩ = false := by
 obtain ⟨b, off, ha, c, hc, hb, hx⟩ := h.row.at i hi
 simp only [Option.some.injEq, Addr.mk.injEq, and_true] at ha
 obtain ⟨rfl, rfl⟩ := ha
 rw [Nat.zero_add] at hx
 exact ⟨c, hc, hb, hx, World.ownsRow.frozenAt h i⟩
theorem Own8.store {w : World} {base g len cap : Nat} {bs : List UInt8} (h : Own8 w base (some ⟨g, 0, none⟩) len cap bs) (i : Nat) (c : UInt8) :
 Own8 (w.setCell ⟨g, i, none⟩ (.int .u8 (c.toNat : Nat))) base (some ⟨g, 0, none⟩) len cap (bs.set i c) := by
 have := (World.ownsRow.stored h i (.int .u8 (c.toNat : Nat))).1
 unfold Own8
 rw [show cells8 (bs.set i c) = (cells8 bs).set i (.int .u8 (c.toNat : Nat)) from List.map_set]
 exact this
theorem Own8.nil (w : World) (base : Nat) : Own8 w base none 0 0 [] := World.ownsRow_nil w base _ 1
theorem Own8.made (w : World) (base : Nat) (cs : Array Value) (bs : List UInt8) (n : Nat) (hb : base ≤ w.heap.size) (hn : n ≤ maxLen) (hl : bs.length = n) (hc : cs.toList = cells8 bs) : Own8 (w.alloc (.cells cs 5)) base (some ⟨w.heap.size, 0, none⟩) n n bs := by
 have hz : cs.size = n * 1 := by rw [← Array.length_toList, hc, cells8_length, hl]; omega
 have h := World.ownsRow_lit (base := base) (e := 5) (size := 1) w cs n hb hn hz
 rw [hc] at h
 exact h
theorem Own8.fresh (w : World) (base H : Nat) (cs : Array Value) (bs : List UInt8) (n : Nat) (hH : w.heap.size = H) (hb : base ≤ w.heap.size) (hn : n ≤ maxLen) (hl : bs.length = n) (hc : cs.toList = cells8 bs) : Own8 (w.alloc (.cells cs 5)) base (some ⟨H, 0, none⟩) n n bs := by
 subst hH
 exact Own8.made w base cs bs n hb hn hl hc
theorem Own8.more {w : World} {base base' : Nat} {ao : Option Addr} {len cap : Nat} {bs : List UInt8} (h : Own8 w base ao len cap bs) (hb : base' ≤ base) : Own8 w base' ao len cap bs := by
 refine ⟨h.1, ?_⟩
 rcases h.2 with hv | ⟨g, cp, cur, hv, hbg, r⟩
 · exact .inl hv
 · exact .inr ⟨g, cp, cur, hv, Nat.le_trans hb hbg, r⟩
theorem Own8.below {w w' : World} {base B : Nat} {ao : Option Addr} {len cap : Nat} {bs : List UInt8} (h : Own8 w base ao len cap bs) (hb : Below B w w') (hB : w.heap.size ≤ B) : Own8 w' base ao len cap bs := by
 refine ⟨h.1, ?_⟩
 rcases h.2 with hv | ⟨g, cp, cur, hv, hbg, hg, r⟩
 · exact .inl hv
 · exact .inr ⟨g, cp, cur, hv, hbg, by rw [hb.block g (Nat.lt_of_lt_of_le (Array.getElem?_eq_some_iff.1 hg).1 hB)]; exact hg, r⟩
theorem Row8.news {w : World} {ax : Option Addr} {m : Nat} {xs : List UInt8} (h : Row8 w ax m xs) : 0 < m → ∃ ad, ax = some ad ∧ ∀ j u, (cells8 xs)[j]? = some u → w.cell? (ad.add j) = some u := by
 intro hm
 obtain ⟨b, off, rfl, _⟩ := h.2 0 hm
 refine ⟨_, rfl, fun j u hu => ?_⟩
 have hj : j < xs.length := by
  have := (List.getElem?_eq_some_iff.1 hu).1
  rwa [cells8_length] at this
 have ha : (⟨b, off, none⟩ : Addr).add j = ⟨b, off + j, none⟩ := by unfold Addr.add; split <;> simp_all
 obtain ⟨b', off', he, hc⟩ := h.2 j (by rw [← h.1]; exact hj)
 simp only [Option.some.injEq, Addr.mk.injEq, and_true] at he
 obtain ⟨rfl, rfl⟩ := he
 rw [ha, hc, ← hu, cells8_at xs j hj]
theorem wpList_append8 {w : World} {ops : Array Oper} {rest : List Oper} {o : Oper} {a : Act} {Q : Exit → Act → World → Prop} (hgd : o.guard = none) (s x : Operand)
 (ho : o.op = .call { callee := .builtin .append, args := #[s, x], argTypes := #[53, 53] })
 (base : Nat) (ao : Option Addr) (n cap : Nat) (bs : List UInt8) (hs : a.eval s = .slice ao n cap) (hown : Own8 w base ao n cap bs)
 (ax : Option Addr) (m c : Nat) (xs : List UInt8) (hx : a.eval x = .slice ax m c) (hrow : Row8 w ax m xs) (hnil : ax = none → c = 0) (hbig : n + m ≤ 140737488355328) (hbase : base ≤ w.heap.size) (N : Nat) (hN : n + m = N)
 (h : ∀ ao' cap' w', Own8 w' base ao' N cap' (bs ++ xs) → w.grownBy w' (Value.ownBlock (.slice ao n cap)) →
  (Value.ownBlock (.slice ao' N cap') = Value.ownBlock (.slice ao n cap) ∨ Value.ownBlock (.slice ao' N cap') = some w.heap.size) → wpList Tryz.prog ops Q rest (a.put o.dst (.slice ao' N cap')) w') : wpList Tryz.prog ops Q (o :: rest) a w := by
 obtain ⟨i0, hi, hz0, hz1, hz2⟩ := info_parts info_byte
 refine wpList_append_row hgd s x _ ho base 5 i0 (.int .u8 0) 1 1 Tryz.underlying53 hi hz0 hz1 hz2 rfl (by decide) ao n cap (cells8 bs) hs hown ax m c (cells8 xs) hx (by rw [cells8_length, hrow.1]; omega) hrow.news hnil (cells8_one _) (by simp only [maxLen]; omega) (by omega) hbase N hN ?_
 intro ao' cap' w' h1 h2 h3
 rw [← cells8_append] at h1
 exact h ao' cap' w' h1 h2 h3
theorem Own8.grown {w w' : World} {base : Nat} {ao : Option Addr} {len cap : Nat} {bs : List UInt8} {a : World} {B : Nat} (h : Own8 w base ao len cap bs) (hb : Below B a w) (hg : w.grownBy w' (Value.ownBlock (.slice ao len cap))) (hB : B ≤ base) (hs : B ≤ w.heap.size) : Below B a w' :=
 hb.grown hg hs fun k hk => Nat.le_trans hB (h.block k hk).1
theorem ret_int {k : IntKind} {a b : Int} (h : a = b) : Ending.returned (.int k a) = .returned (.int k b) := by rw [h]
theorem val_int {k : IntKind} {a b : Int} (h : a = b) : Value.int k a = .int k b := by rw [h]
end Go.Proofs.YtpknmfmpiachkaaGreat
