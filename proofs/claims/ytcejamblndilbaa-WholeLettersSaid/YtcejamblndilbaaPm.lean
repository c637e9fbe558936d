/- Messages, plain; how one is read. -/
import Derived.Test.YtcejamblndilbaaEnc2
import Derived.Test.YtcejamblndilbaaLoad3
namespace Go.Proofs.Ytcejamblndilbaa
open Go.RowKit

/-- an entry, plain -/
structure Pe where
  ix : Int
  tm : Int
  kd : Int
  bs : List UInt8
/-- a message, plain -/
structure Pm where
  kind : Int
  fr : Int
  dst : Int
  term : Int
  index : Int
  logTerm : Int
  commit : Int
  ok : Bool
  es : List Pe
  off : Int
  d : List UInt8
  last : Bool
  v : List Int
  l : List Int
def En.plain (e : En) : Pe := ⟨e.ix, e.tm, e.kd, e.s.bs⟩
def Ms.plain (m : Ms) : Pm := ⟨m.kind, m.fr, m.to, m.term, m.index, m.logTerm, m.commit, m.ok, m.es.map En.plain, m.off, m.d.bs, m.last, m.c.v.zs, m.c.l.zs⟩
def Pm.p (x : Pm) : Pt := (namesOf x.kind).1

/-! what is left to read -/
def stConf (x : Pm) (r : List UInt8) : Option (Pm × List UInt8) :=
  if x.p.conf then match getBytes r with
    | none => none
    | some (b, r) => match loadOf b with
      | none => none
      | some (v, l) => some ({ x with v := v, l := l }, r)
  else some (x, r)
def stLast (x : Pm) (r : List UInt8) : Option (Pm × List UInt8) :=
  if x.p.last then match getFlag r with
    | none => none
    | some (b, r) => stConf { x with last := b } r
  else stConf x r
def stData (x : Pm) (r : List UInt8) : Option (Pm × List UInt8) :=
  if x.p.data then match getBytes r with
    | none => none
    | some (b, r) => stLast { x with d := b } r
  else stLast x r
def stOff (x : Pm) (r : List UInt8) : Option (Pm × List UInt8) :=
  if x.p.off then match getNum r with
    | none => none
    | some (n, r) => stData { x with off := n } r
  else stData x r
def stEs : Nat → Pm → List UInt8 → Option (Pm × List UInt8)
  | 0, x, r => stOff x r
  | j + 1, x, r => match getNum r with
    | none => none
    | some (tm, r) => match getCount 2 r with
      | none => none
      | some (kd, r) => match getBytes r with
        | none => none
        | some (b, r) => stEs j { x with es := x.es ++ [⟨wrap64 (wrap64 (x.index + 1) + (x.es.length : Nat)), tm, kd, b⟩] } r
def stEnts (x : Pm) (r : List UInt8) : Option (Pm × List UInt8) :=
  if x.p.entries then match getCount 8 r with
    | none => none
    | some (n, r) => stEs n.toNat x r
  else stOff x r
def stOk (x : Pm) (r : List UInt8) : Option (Pm × List UInt8) :=
  if x.p.ok then match getFlag r with
    | none => none
    | some (b, r) => stEnts { x with ok := b } r
  else stEnts x r
def nameN (p : Pt) : Nat → Bool
  | 0 => p.index
  | 1 => p.logTerm
  | _ => p.commit
def Pm.setN (x : Pm) : Nat → Int → Pm
  | 0, n => { x with index := n }
  | 1, n => { x with logTerm := n }
  | _, n => { x with commit := n }
/-- three numbers, from number 3 - j on -/
def stNum : Nat → Pm → List UInt8 → Option (Pm × List UInt8)
  | 0, x, r => stOk x r
  | j + 1, x, r => if nameN x.p (2 - j) then match getNum r with
      | none => none
      | some (n, r) => stNum j (x.setN (2 - j) n) r
    else stNum j x r
/-- a message out of bytes -/
def readP (bs : List UInt8) : Option (Pm × List UInt8) := match getCount 8 bs with
  | none => none
  | some (kind, r) => match getCount 7 r with
    | none => none
    | some (fr, r) => match getCount 7 r with
      | none => none
      | some (dst, r) => match getNum r with
        | none => none
        | some (term, r) => stNum 3 ⟨kind, fr, dst, term, 0, 0, 0, false, [], 0, [], false, [], []⟩ r

/-- a message in memory of the call's own -/
structure MOwn (w : World) (B : Nat) (m : Ms) : Prop where
  row : w.ownsRow B 41 4 (.slice m.ea m.en m.ecap) m.en (m.es.flatMap En.cells)
  len : m.es.length = m.en
  ents : ∀ e ∈ m.es, Own8 w B e.s.a e.s.len e.s.cap e.s.bs
  data : Own8 w B m.d.a m.d.len m.d.cap m.d.bs
  cv : OwnZ w B m.c.v
  cl : OwnZ w B m.c.l
theorem Own8.keep {w w' : World} {base : Nat} {ao : Option Addr} {len cap : Nat} {bs : List UInt8} (h : Own8 w base ao len cap bs) (hk : ∀ g, base ≤ g → g < w.heap.size → w'.heap[g]? = w.heap[g]?) : Own8 w' base ao len cap bs :=
  own_keep h fun g hg hl => hk g (h.block g hg).1 hl
theorem MOwn.keep {w w' : World} {B : Nat} {m : Ms} (h : MOwn w B m) (hk : ∀ g, B ≤ g → g < w.heap.size → w'.heap[g]? = w.heap[g]?) : MOwn w' B m :=
  ⟨own_keep h.row fun g hg hl => hk g (h.row.lt g hg).1 hl, h.len, fun e he => (h.ents e he).keep hk, h.data.keep hk, own_keep h.cv fun g hg hl => hk g (h.cv.lt g hg).1 hl, own_keep h.cl fun g hg hl => hk g (h.cl.lt g hg).1 hl⟩
theorem MOwn.more {w : World} {B B' : Nat} {m : Ms} (h : MOwn w B m) (hb : B' ≤ B) : MOwn w B' m :=
  ⟨own_more h.row hb, h.len, fun e he => (h.ents e he).more hb, h.data.more hb, own_more h.cv hb, own_more h.cl hb⟩
theorem Own8.sl {w : World} {B : Nat} {s : Sl} (h : Own8 w B s.a s.len s.cap s.bs) : Sl.ok w s := ⟨h.row, h.cap.1, h.cap.2, h.nocap⟩
theorem MOwn.ok {w : World} {B : Nat} {m : Ms} (h : MOwn w B m) : MsOk w m :=
  ⟨RowN.of_own h.row, h.len, fun e he => Own8.sl (h.ents e he), ⟨(own_cap h.row).1, (own_cap h.row).2.1⟩, Own8.sl h.data, ⟨h.cv.row, h.cv.nil⟩, ⟨h.cl.row, h.cl.nil⟩⟩

/-- where msg.read stands -/
structure RdI (w0 : World) (R M : Nat) (r : List UInt8) (w : World) (m : Ms) : Prop where
  rd : Rd w R r
  cell : w.heap[M]? = some (.cells m.cs 28 (0, 0))
  own : MOwn w (M + 1) m
  touch : Touch [R] w0 w
theorem RdI.lt {w0 w : World} {R M : Nat} {r : List UInt8} {m : Ms} (h : RdI w0 R M r w m) : M < w.heap.size := (Array.getElem?_eq_some_iff.1 h.cell).1
/-- a reading -/
theorem RdI.step {w0 w w' : World} {R M : Nat} {r r' : List UInt8} {m : Ms} (h : RdI w0 R M r w m) (hRM : R < M) (hg : w.grownBy w' (some R)) (hr : Rd w' R r') : RdI w0 R M r' w' m :=
  ⟨hr, (hg.block M h.lt (fun e => by injection e; omega)).trans h.cell, h.own.keep fun g hb hl => hg.block g hl (fun e => by injection e; omega), h.touch.trans (Touch.of_grown hg (by simp))⟩
theorem RdI.below {w0 w w' : World} {R M : Nat} {r : List UInt8} {m : Ms} (h : RdI w0 R M r w m) (hb : Below w.heap.size w w') : RdI w0 R M r w' m :=
  ⟨h.rd.below hb, (hb.block M h.lt).trans h.cell, h.own.keep fun g _ hl => hb.block g hl, h.touch.trans (Touch.of_below hb)⟩
/-- a store into the message -/
theorem RdI.set {w0 w : World} {R M : Nat} {r : List UInt8} {m m' : Ms} (h : RdI w0 R M r w m) (hRM : R < M) (hM : w0.heap.size ≤ M) {i : Nat} {v : Value} (hcs : m.cs.setIfInBounds i v = m'.cs) (ho : MOwn w (M + 1) m') :
    RdI w0 R M r (w.setCell ⟨M, i, none⟩ v) m' := by
  have ht : Touch [M] w (w.setCell ⟨M, i, none⟩ v) := Touch.set w M i v (by simp)
  refine ⟨h.rd.high fun k hk hl => ht.block k hl (by simp; omega), ?_, ho.keep fun g hb hl => ht.block g hl (by simp; omega), ?_⟩
  · rw [← hcs]; exact set_block (i := i) h.cell v
  · exact ⟨h.touch.os, h.touch.tape, h.touch.output, by have := h.touch.size; have := ht.size; omega, fun k hk hn => (ht.block k (by have := h.touch.size; omega) (by simp; omega)).trans (h.touch.block k hk hn)⟩
theorem RdI.free {w0 w : World} {R M : Nat} {r : List UInt8} {m : Ms} (h : RdI w0 R M r w m) (i : Nat) : w.frozen? ⟨M, i, none⟩ = false := by
  simp [World.frozen?, h.cell]

/-- what msg.read answers -/
def ReadM (w0 : World) (R : Nat) (res : Option (Pm × List UInt8)) (e : Ending) (w' : World) : Prop :=
  Touch [R] w0 w' ∧ (∀ x r, res = some (x, r) → ∃ m : Ms, e = .returned (.agg m.cs) ∧ m.plain = x ∧ MOwn w' w0.heap.size m ∧ Rd w' R r) ∧ (res = none → e = Wrong 30)
theorem ReadM.mk_no {w0 : World} {R : Nat} {res : Option (Pm × List UInt8)} {w' : World} {e : Ending} (ht : Touch [R] w0 w') (hr : res = none) (he : e = Wrong 30) : ReadM w0 R res e w' :=
  ⟨ht, (fun x r h => by rw [hr] at h; cases h), fun _ => he⟩
end Go.Proofs.Ytcejamblndilbaa
