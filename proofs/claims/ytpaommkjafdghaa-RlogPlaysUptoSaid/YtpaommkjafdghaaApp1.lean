/- Entries that are only read; a log with an entry more. -/
import Derived.Test.YtpaommkjafdghaaRightE
namespace Go.Proofs.Ytpaommkjafdghaa
open Go.RowKit

/-- a row of entries that is only read, in blocks that P holds of -/
structure EnAt (w : World) (P : Nat → Prop) (us : List En) (a : Option Addr) (n : Nat) : Prop where
  len : us.length = n
  row : RowN w a 4 n (us.flatMap En.cells)
  ok : ∀ u ∈ us, Sl.ok w u.s ∧ SlP P u.s
  far : ∀ b off, a = some ⟨b, off, none⟩ → 0 < n → P b
theorem EnAt.nil (w : World) (P : Nat → Prop) : EnAt w P [] none 0 := ⟨rfl, RowN.nil _ _ _, fun u hu => (by cases hu), fun _ _ h => (by cases h)⟩
theorem EnAt.below {w w' : World} {P : Nat → Prop} {us : List En} {a : Option Addr} {n : Nat} (h : EnAt w P us a n) (hb : Below w.heap.size w w') : EnAt w' P us a n :=
  ⟨h.len, h.row.below hb, fun u hu => ⟨(h.ok u hu).1.below hb, (h.ok u hu).2⟩, h.far⟩
theorem Sl.ok.touch {w w' : World} {P : Nat → Prop} {s : Sl} {S : List Nat} (h : Sl.ok w s) (hp : SlP P s) (ht : Touch S w w') (hS : ∀ b, P b → b ∉ S) : Sl.ok w' s := ⟨h.1.touch ht fun b off e hn => hS b (hp b off e hn), h.2⟩
theorem EnAt.touch {w w' : World} {P : Nat → Prop} {us : List En} {a : Option Addr} {n : Nat} {S : List Nat} (h : EnAt w P us a n) (ht : Touch S w w') (hS : ∀ b, P b → b ∉ S) : EnAt w' P us a n :=
  ⟨h.len, h.row.touch ht fun b off e hn => hS b (h.far b off e (by omega)), fun u hu => ⟨(h.ok u hu).1.touch (h.ok u hu).2 ht hS, (h.ok u hu).2⟩, h.far⟩
theorem EnAt.mono {w : World} {P Q : Nat → Prop} {us : List En} {a : Option Addr} {n : Nat} (h : EnAt w P us a n) (hPQ : ∀ b, P b → Q b) : EnAt w Q us a n :=
  ⟨h.len, h.row, fun u hu => ⟨(h.ok u hu).1, (h.ok u hu).2.mono hPQ⟩, fun b off e hn => hPQ b (h.far b off e hn)⟩

/-- not the log, not its row -/
def Off (N : Nat) (ae : Option Addr) (b : Nat) : Prop := b ≠ N ∧ Value.ownBlock (.slice ae 0 0) ≠ some b
theorem NStep.touch {w w' : World} {N : Nat} {ae ae' : Option Addr} (hs : NStep w w' N ae ae') : Touch (N :: (Value.ownBlock (.slice ae 0 0)).toList) w w' :=
  ⟨hs.os, hs.tape, hs.output, hs.size, fun k hk hn => hs.block k hk (fun e => hn (by simp [e])) (fun e => hn (by simp [e]))⟩
theorem off_not {N : Nat} {ae : Option Addr} : ∀ b, Off N ae b → b ∉ N :: (Value.ownBlock (.slice ae 0 0)).toList := fun b hb hm => by
  rcases List.mem_cons.1 hm with rfl | hm
  · exact hb.1 rfl
  · exact hb.2 (by simpa using hm)
theorem EnAt.nstep {w w' : World} {N : Nat} {ae ae' : Option Addr} {us : List En} {a : Option Addr} {n : Nat} (h : EnAt w (Off N ae) us a n) (hs : NStep w w' N ae ae') : EnAt w' (Off N ae) us a n := h.touch hs.touch off_not

theorem info_entry : (Try.prog.info? 32).map (fun i => (i.zero, i.size, i.bytes)) = some (some (.agg #[.int .i64 0, .int .i64 0, .int .i64 0, .slice none 0 0]), 4, 48) := by kernel_rfl
theorem cells_one4 (e : En) : ∀ u ∈ e.cells, u.oneCell' = true := by
  intro u hu
  simp only [En.cells, List.mem_cons, List.not_mem_nil, or_false] at hu
  rcases hu with rfl | rfl | rfl | rfl <;> rfl
/-- 'append(es, e)' as one step of a region that draws -/
theorem step_appendE {w : World} {ops : Array Oper} {o : Oper} {a : Act} {K : Act → World → Prop} {Q : Exit → Act → World → Prop} {E : Prop} (hgd : o.guard = none) (s x : Operand)
    (ho : o.op = .call { callee := .builtin .append, args := #[s, x], argTypes := #[22, 22] })
    (base : Nat) (ao : Option Addr) (n cap : Nat) (vs : List Value) (hs : a.eval s = .slice ao n cap) (hown : w.ownsRow base 32 4 (.slice ao n cap) n vs)
    (ax : Option Addr) (m c : Nat) (xs : List Value) (hx : a.eval x = .slice ax m c) (hrow : RowN w ax 4 m xs) (hnil : ax = none → c = 0) (h1 : ∀ u ∈ xs, u.oneCell' = true) (hbig : n + m ≤ 2000000000000) (hbase : base ≤ w.heap.size) (N : Nat) (hN : n + m = N)
    (h : ∀ ao' cap' w', w'.ownsRow base 32 4 (.slice ao' N cap') N (vs ++ xs) → w.grownBy w' (Value.ownBlock (.slice ao n cap)) →
      (Value.ownBlock (.slice ao' N cap') = Value.ownBlock (.slice ao n cap) ∨ Value.ownBlock (.slice ao' N cap') = some w.heap.size) → K (a.put o.dst (.slice ao' N cap')) w') :
    if Region.wanted o (yielded ops a.tmps) = true then Oper.wp Try.prog o a w K Q else E := by
  subst hN
  have hw : Region.wanted o (yielded ops a.tmps) = true := by simp [Region.wanted, hgd]
  rw [if_pos hw]
  obtain ⟨i0, hi, hz0, hz1, hz2⟩ := info_parts info_entry
  obtain ⟨ao', cap', w', hr, h2, h3, h4⟩ := run_append_row (P := Try.prog) w base 22 o.type 32 i0 _ 4 48 Try.underlying22 hi hz0 hz1 hz2 rfl (by decide) ao n cap vs hown ax m c xs hrow.1 hrow.news hnil h1 (by simp only [maxLen]; omega) (by omega) hbase
  unfold Oper.wp execOp
  simp only [ho, resolve, invoke, builtin, Sem.run_bind, Sem.run_pure, Result.andThen_ok, List.map_toArray, List.map_cons, List.map_nil, hs, hx, hr]
  exact h ao' cap' w' h2 h3 h4
theorem wpList_appendE {w : World} {ops : Array Oper} {rest : List Oper} {o : Oper} {a : Act} {Q : Exit → Act → World → Prop} (hgd : o.guard = none) (s x : Operand)
    (ho : o.op = .call { callee := .builtin .append, args := #[s, x], argTypes := #[22, 22] })
    (base : Nat) (ao : Option Addr) (n cap : Nat) (vs : List Value) (hs : a.eval s = .slice ao n cap) (hown : w.ownsRow base 32 4 (.slice ao n cap) n vs)
    (ax : Option Addr) (m c : Nat) (xs : List Value) (hx : a.eval x = .slice ax m c) (hrow : RowN w ax 4 m xs) (hnil : ax = none → c = 0) (h1 : ∀ u ∈ xs, u.oneCell' = true) (hbig : n + m ≤ 2000000000000) (hbase : base ≤ w.heap.size) (N : Nat) (hN : n + m = N)
    (h : ∀ ao' cap' w', w'.ownsRow base 32 4 (.slice ao' N cap') N (vs ++ xs) → w.grownBy w' (Value.ownBlock (.slice ao n cap)) →
      (Value.ownBlock (.slice ao' N cap') = Value.ownBlock (.slice ao n cap) ∨ Value.ownBlock (.slice ao' N cap') = some w.heap.size) → wpList Try.prog ops Q rest (a.put o.dst (.slice ao' N cap')) w') : wpList Try.prog ops Q (o :: rest) a w := by
  obtain ⟨i0, hi, hz0, hz1, hz2⟩ := info_parts info_entry
  exact wpList_append_row hgd s x _ ho base 32 i0 _ 4 48 Try.underlying22 hi hz0 hz1 hz2 rfl (by decide) ao n cap vs hs hown ax m c xs hx hrow.1 hrow.news hnil h1 (by simp only [maxLen]; omega) (by omega) hbase N hN h

/-- the log behind an entry more -/
theorem log_snoc {w w2 w3 : World} {base N n cap cap3 : Nat} {ix tm : Int} {c : Cf} {es : List En} {ao ao3 : Option Addr} {o : Obj} {l : En} (h : LogAt w base N ix tm c es ao n cap) (hb2 : Below w.heap.size w w2) (hg3 : (w2.alloc o).grownBy w3 (Value.ownBlock (.slice ao n cap)))
    (hown3 : w3.ownsRow base 32 4 (.slice ao3 (n + 1) cap3) (n + 1) (es.flatMap En.cells ++ l.cells)) (hv : Own8 w2 w.heap.size l.s.a l.s.len l.s.cap l.s.bs)
    (hat : Value.ownBlock (.slice ao3 (n + 1) cap3) = Value.ownBlock (.slice ao n cap) ∨ Value.ownBlock (.slice ao3 (n + 1) cap3) = some (w2.alloc o).heap.size) :
    w3.heap[N]? = some (.cells #[.int .i64 ix, .int .i64 tm, .slice c.v.a c.v.len c.v.cap, .slice c.l.a c.l.len c.l.cap, .slice ao n cap] 67 (0, 0)) ∧ LogAt (w3.setCell ⟨N, 4, none⟩ (.slice ao3 (n + 1) cap3)) base N ix tm c (es ++ [l]) ao3 (n + 1) cap3 ∧ NStep w (w3.setCell ⟨N, 4, none⟩ (.slice ao3 (n + 1) cap3)) N ao ao3 := by
  have hNl := lt_of_block h.cell
  have hz2 := hb2.size
  have hlo := h.lo
  have hmid : ∀ g, g < w2.heap.size → (w2.alloc o).heap[g]? = w2.heap[g]? := fun g hg => heap_alloc_old w2 o hg
  have hrl := h.row.lt
  have h3 : ∀ g, g < w2.heap.size → Value.ownBlock (.slice ao n cap) ≠ some g → w3.heap[g]? = w2.heap[g]? := fun g hg hn => (hg3.block g (by rw [World.size_alloc]; omega) (fun e => hn e.symm)).trans (hmid g hg)
  have hcell2 := (hb2.block N hNl).trans h.cell
  have hrow2 : w2.ownsRow base 32 4 (.slice ao n cap) n (es.flatMap En.cells) := own_keep h.row fun g _ hl => hb2.block g hl
  have hN3 : w3.heap[N]? = some (.cells #[.int .i64 ix, .int .i64 tm, .slice c.v.a c.v.len c.v.cap, .slice c.l.a c.l.len c.l.cap, .slice ao n cap] 67 (0, 0)) := (h3 N (by omega) (own_ne hrow2 hcell2 (by decide))).trans hcell2
  have hset : ∀ g, g ≠ N → (w3.setCell ⟨N, 4, none⟩ (.slice ao3 (n + 1) cap3)).heap[g]? = w3.heap[g]? := fun g hg => Below.heap_setCell w3 _ _ g (by simpa using hg)
  have hz3 := hg3.size
  rw [World.size_alloc] at hz3
  have k8 : ∀ (a : Option Addr) (len c : Nat) (bs : List UInt8), Own8 w2 base a len c bs → Own8 (w3.setCell ⟨N, 4, none⟩ (.slice ao3 (n + 1) cap3)) base a len c bs := fun a len c bs hu => own_keep hu fun g hg hl => (hset g (fun e => own_ne hu hcell2 (by decide) (e ▸ hg))).trans (h3 g hl (fun e => own_apart hrow2 hu (by decide) g e hg))
  have kz : ∀ s : Is, OwnZ w2 base s → OwnZ (w3.setCell ⟨N, 4, none⟩ (.slice ao3 (n + 1) cap3)) base s := fun s hu => own_keep hu fun g hg hl => (hset g (fun e => own_ne hu hcell2 (by decide) (e ▸ hg))).trans (h3 g hl (fun e => own_apart hrow2 hu (by decide) g e hg))
  refine ⟨hN3, ⟨hlo, ?_, kz _ (own_keep h.vo fun g _ hl => hb2.block g hl), kz _ (own_keep h.le fun g _ hl => hb2.block g hl), by rw [List.length_append, h.len]; rfl, ?_, fun u hu => ?_⟩, ⟨hg3.os.trans hb2.os, hg3.tape.trans hb2.tape, hg3.output.trans hb2.output, by simp [World.setCell]; omega, fun k hk hn hx => ?_, fun g hg => ?_⟩⟩
  · exact set_block hN3 _
  · rw [List.flatMap_append]
    exact own_keep (by simpa using hown3) fun g hg hl => hset g (fun e => own_ne hown3 hN3 (by decide) (e ▸ hg))
  · rcases List.mem_append.1 hu with hu | hu
    · exact k8 _ _ _ _ (own_keep (h.own u hu) fun g _ hl => hb2.block g hl)
    · rw [List.mem_singleton] at hu
      subst hu
      exact k8 _ _ _ _ (own_more hv (by omega))
  · exact (hset k hn).trans ((h3 k (by omega) (fun e => hx ((own_addr ao 0 0 n cap).trans e))).trans (hb2.block k hk))
  · rw [own_addr ao3 0 0 (n + 1) cap3] at hg
    rcases hat with e | e
    · left
      rw [own_addr ao 0 0 n cap, ← e]
      exact hg
    · right
      rw [e] at hg
      injection hg with hg
      rw [World.size_alloc] at hg
      omega

/-- what an entry says -/
def En.says (e : En) : Int × Int × Int × List UInt8 := (e.ix, e.tm, e.kd, e.s.bs)
def appendOf : Int → Int → List En → Int
  | _, _, [] => 0
  | i, t, e :: r => if rightE e.ix e.tm e.kd e.s.bs = false then 1 else if e.ix ≠ i + 1 then 60 else if e.tm < t then 42 else appendOf e.ix e.tm r
end Go.Proofs.Ytpaommkjafdghaa
