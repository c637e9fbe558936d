/- conf.Load: its closure. -/
import Derived.Test.YtcejamblndilbaaRight2
namespace Go.Proofs.Ytcejamblndilbaa
open Go.RowKit

def readNs : Nat → List UInt8 → List Int → Option (List Int × List UInt8)
  | 0, bs, acc => some (acc, bs)
  | k + 1, bs, acc => match getCount 7 bs with
    | none => none
    | some (n, r) => readNs k r (acc ++ [n])
def readGrp (bs : List UInt8) : Option (List Int × List UInt8) := match getCount 7 bs with
  | none => none
  | some (n, r) => readNs n.toNat r []
def readFin (v l : List Int) (r : List UInt8) : Option ((List Int × List Int) × List UInt8) := if confRight v l = true then some ((v, l), r) else none
/-- what is left to do when d groups have been read -/
def readStage (d : Nat) (v l : List Int) (bs : List UInt8) : Option ((List Int × List Int) × List UInt8) := match d with
  | 0 => match readGrp bs with
    | none => none
    | some (v, r) => match readGrp r with
      | none => none
      | some (l, r2) => readFin v l r2
  | 1 => match readGrp bs with
    | none => none
    | some (l, r2) => readFin v l r2
  | _ => readFin v l bs
def readConf (bs : List UInt8) : Option ((List Int × List Int) × List UInt8) := readStage 0 [] [] bs

theorem readStage_none {d : Nat} {v l : List Int} {bs : List UInt8} (hd : d < 2) (h : readGrp bs = none) : readStage d v l bs = none := by
  match d, hd with
  | 0, _ => simp only [readStage, h]
  | 1, _ => simp only [readStage, h]
theorem readStage_zero {v l l2 v' : List Int} {bs r : List UInt8} (h : readGrp bs = some (v', r)) : readStage 0 v l bs = readStage 1 v' l2 r := by
  simp only [readStage, h]
theorem readStage_one {v l l' : List Int} {bs r : List UInt8} (h : readGrp bs = some (l', r)) : readStage 1 v l bs = readStage 2 v l' r := by
  simp only [readStage, h]

/-- 'append(ns, n)' as one step of a region that draws -/
theorem step_appendZ {w : World} {ops : Array Oper} {o : Oper} {a : Act} {K : Act → World → Prop} {Q : Exit → Act → World → Prop} {E : Prop} (hgd : o.guard = none) (s x : Operand)
    (ho : o.op = .call { callee := .builtin .append, args := #[s, x], argTypes := #[24, 24] })
    (base : Nat) (ao : Option Addr) (n cap : Nat) (vs : List Value) (hs : a.eval s = .slice ao n cap) (hown : w.ownsRow base 3 1 (.slice ao n cap) n vs)
    (ax : Option Addr) (m c : Nat) (xs : List Value) (hx : a.eval x = .slice ax m c) (hrow : RowN w ax 1 m xs) (hnil : ax = none → c = 0) (h1 : ∀ u ∈ xs, u.oneCell' = true) (hbig : n + m ≤ 1000000000000) (hbase : base ≤ w.heap.size) (N : Nat) (hN : n + m = N)
    (h : ∀ ao' cap' w', w'.ownsRow base 3 1 (.slice ao' N cap') N (vs ++ xs) → w.grownBy w' (Value.ownBlock (.slice ao n cap)) →
      (Value.ownBlock (.slice ao' N cap') = Value.ownBlock (.slice ao n cap) ∨ Value.ownBlock (.slice ao' N cap') = some w.heap.size) → K (a.put o.dst (.slice ao' N cap')) w') :
    if Region.wanted o (yielded ops a.tmps) = true then Oper.wp Try.prog o a w K Q else E := by
  subst hN
  have hw : Region.wanted o (yielded ops a.tmps) = true := by simp [Region.wanted, hgd]
  rw [if_pos hw]
  obtain ⟨i0, hi, hz0, hz1, hz2⟩ := info_parts info_int
  obtain ⟨ao', cap', w', hr, h2, h3, h4⟩ := run_append_row (P := Try.prog) w base 24 o.type 3 i0 _ 1 8 Try.underlying24 hi hz0 hz1 hz2 rfl (by decide) ao n cap vs hown ax m c xs hrow.1 hrow.news hnil h1 (by simp only [maxLen]; omega) (by omega) hbase
  unfold Oper.wp execOp
  simp only [ho, resolve, invoke, builtin, Sem.run_bind, Sem.run_pure, Result.andThen_ok, List.map_toArray, List.map_cons, List.map_nil, hs, hx, hr]
  exact h ao' cap' w' h2 h3 h4

def LdPost (w : World) (R C : Nat) (res : Option ((List Int × List Int) × List UInt8)) (e : Ending) (w' : World) : Prop :=
  Touch [R, C] w w' ∧ (∀ v l r, res = some ((v, l), r) → e = .returned (.tuple #[]) ∧ Rd w' R r ∧ ∃ c : Cf, c.says = (v, l) ∧ w'.heap[C]? = some (.cells #[.slice c.v.a c.v.len c.v.cap, .slice c.l.a c.l.len c.l.cap] 26 (0, 0)) ∧ OwnZ w' w.heap.size c.v ∧ OwnZ w' w.heap.size c.l) ∧ (res = none → e = Wrong 30)
theorem LdPost.mk_no {w : World} {R C : Nat} {res : Option ((List Int × List Int) × List UInt8)} {e : Ending} {w' : World} (ht : Touch [R, C] w w') (he : e = Wrong 30) (hr : res = none) : LdPost w R C res e w' :=
  ⟨ht, (fun _ _ _ h => by rw [hr] at h; cases h), fun _ => he⟩
theorem getCount_range {most : Int} {bs r : List UInt8} {n : Int} (h : getCount most bs = some (n, r)) : 0 ≤ n ∧ n ≤ most := by
  unfold getCount at h
  split at h
  · cases h
  · split at h
    · cases h
    · injection h with h
      injection h with h1 h2
      subst h1
      omega
theorem count_none (R : Nat) (bs : List UInt8) (w : World) (hr : Rd w R bs) (hv : getCount 7 bs = none) :
    Calls Try.prog 81 #[.pointer (some ⟨R, 0, none⟩), .int .i64 7] w fun e w' => e = Wrong 30 ∧ w.grownBy w' (some R) :=
  (count_any R 7 bs w hr).mono fun _ _ h => h.no hv
theorem count_some (R : Nat) (bs r : List UInt8) (n : Nat) (w : World) (hr : Rd w R bs) (hv : getCount 7 bs = some ((n : Int), r)) :
    Calls Try.prog 81 #[.pointer (some ⟨R, 0, none⟩), .int .i64 7] w fun e w' => e = .returned (.int .i64 (n : Int)) ∧ Rd w' R r ∧ w.grownBy w' (some R) :=
  (count_any R 7 bs w hr).mono fun _ _ h => h.ok hv
theorem cell_in {w : World} {C d : Nat} {cs : Array Value} {T : TypeId} {v : Value} (h : w.heap[C]? = some (.cells (cs.setIfInBounds d v) T (0, 0))) (hd : d < cs.size) : w.cell? ⟨C, d, none⟩ = some v ∧ w.frozen? ⟨C, d, none⟩ = false := by
  constructor
  · simp [World.cell?, h, hd]
  · simp [World.frozen?, h]
theorem set_set (cs : Array Value) (d : Nat) (x y : Value) : (cs.setIfInBounds d x).setIfInBounds d y = cs.setIfInBounds d y := by
  apply Array.ext
  · simp
  · intro i h1 h2
    simp
theorem no8 {cs : Array Value} {d : Nat} {a b c : Option Addr} {n n' n'' k k' k'' : Nat} (h : cs = #[.slice a n k, .slice b n' k']) (hd : d < 2) (o : Nat) (x : Int) : (cs.setIfInBounds d (.slice c n'' k''))[o]? ≠ some (.int .u8 x) := by
  subst h
  match d, hd, o with
  | 0, _, 0 => simp
  | 0, _, 1 => simp
  | 0, _, k + 2 => simp
  | 1, _, 0 => simp
  | 1, _, 1 => simp
  | 1, _, k + 2 => simp
end Go.Proofs.Ytcejamblndilbaa
