/- A log and the document's log beside each other. -/
import Derived.Test.YtpaommkjafdghaaAlike
namespace Go.Proofs.Ytpaommkjafdghaa
open Go.RowKit

/-- off the log's block and row, and off the document's log -/
def OffM (N : Nat) (ae : Option Addr) (M b : Nat) : Prop := Off N ae b ∧ b ≠ M
/-- the document's log in a variable -/
structure RfS (N : Nat) (ae : Option Addr) (M : Nat) (ix tm : Int) (c2 : Cf) (a2 : Option Addr) (n cap2 : Nat) (es2 : List En) (w : World) : Prop where
  mem : w.heap[M]? = some (.cells #[.int .i64 ix, .int .i64 tm, .slice c2.v.a c2.v.len c2.v.cap, .slice c2.l.a c2.l.len c2.l.cap, .slice a2 n cap2] 53 (0, 0))
  en : EnAt w (OffM N ae M) es2 a2 n
  cok : c2.ok w
  cat : CfP (OffM N ae M) c2
theorem RfS.later {N : Nat} {ae : Option Addr} {M : Nat} {ix tm : Int} {c2 : Cf} {a2 : Option Addr} {n cap2 : Nat} {es2 : List En} {w w' : World} (h : RfS N ae M ix tm c2 a2 n cap2 es2 w) (hb : Below w.heap.size w w') : RfS N ae M ix tm c2 a2 n cap2 es2 w' :=
  ⟨(hb.block _ (lt_of_block h.mem)).trans h.mem, h.en.below hb, h.cok.below hb, h.cat⟩
theorem EnAt.shift {w : World} {P Q : Nat → Prop} {es : List En} {a : Option Addr} {n : Nat} (h : EnAt w P es a n) (hPQ : ∀ b, b < w.heap.size → P b → Q b) : EnAt w Q es a n := by
  refine ⟨h.len, h.row, fun u hu => ⟨(h.ok u hu).1, fun b o e hn => ?_⟩, fun b o e hn => ?_⟩
  · obtain ⟨b', o', e', hc⟩ := (h.ok u hu).1.1.2 0 hn
    have hb := World.block_lt_of_cell? w _ hc
    rw [e] at e'
    injection e' with e'
    injection e' with e1 _ _
    subst e1
    exact hPQ b hb ((h.ok u hu).2 b o e hn)
  · obtain ⟨u, hu⟩ : ∃ u, es[0]? = some u := ⟨_, List.getElem?_eq_getElem (by have := h.len; omega)⟩
    obtain ⟨b', o', e', hc, _⟩ := en_at h.row h.len 0 hn u hu
    have hb := World.block_lt_of_cell? w _ hc
    rw [e] at e'
    injection e' with e'
    injection e' with e1 _ _
    subst e1
    exact hPQ b hb (h.far b o e hn)
theorem CfP.shift {w : World} {P Q : Nat → Prop} {c : Cf} (h : CfP P c) (hok : c.ok w) (hPQ : ∀ b, b < w.heap.size → P b → Q b) : CfP Q c :=
  ⟨fun b o e hn => hPQ b (hok.low.1 b o e hn) (h.1 b o e hn), fun b o e hn => hPQ b (hok.low.2 b o e hn) (h.2 b o e hn)⟩
theorem EnAt.enR {w : World} {P : Nat → Prop} {es : List En} {a : Option Addr} {n : Nat} (h : EnAt w P es a n) : EnR w es a n :=
  ⟨h.len, h.row, fun u hu => ⟨(h.ok u hu).1.1, Nat.le_trans (h.ok u hu).1.2.1 (h.ok u hu).1.2.2.1⟩⟩
/-- a block of another kind is none of the log's -/
theorem LogAt.other {w : World} {base N : Nat} {ix tm : Int} {c : Cf} {es : List En} {ae : Option Addr} {n cap M : Nat} {cs : Array Value} (h : LogAt w base N ix tm c es ae n cap) (hM : w.heap[M]? = some (.cells cs 53 (0, 0))) : ∀ g, LogOn N c es ae g → g ≠ M := by
  intro g hg e
  subst e
  rcases hg with rfl | hg | hg | hg | ⟨e, he, hg⟩
  · have := h.cell
    rw [hM] at this
    injection this with this
    injection this with _ ht _
    exact absurd ht (by decide)
  · exact own_ne h.vo hM (by decide) hg
  · exact own_ne h.le hM (by decide) hg
  · exact own_ne h.row hM (by decide) ((own_addr ae n cap 0 0).trans hg)
  · exact own_ne (h.own e he) hM (by decide) hg
theorem RfS.nstep {N : Nat} {ae ae' : Option Addr} {M : Nat} {ix tm ix' tm' : Int} {c2 c : Cf} {a2 : Option Addr} {n cap2 n' cap' base : Nat} {es2 es : List En} {w w' : World} (h : RfS N ae M ix tm c2 a2 n cap2 es2 w) (hL : LogAt w base N ix' tm' c es ae n' cap') (hs : NStep w w' N ae ae') : RfS N ae' M ix tm c2 a2 n cap2 es2 w' := by
  have hM := lt_of_block h.mem
  have hMN : M ≠ N := fun e => (hL.other h.mem N (.inl rfl)) e.symm
  have hMa : Value.ownBlock (.slice ae 0 0) ≠ some M := fun e => hL.other h.mem M (.inr (.inr (.inr (.inl e)))) rfl
  have hno : ∀ b, OffM N ae M b → b ∉ N :: (Value.ownBlock (.slice ae 0 0)).toList := fun b hb => off_not b hb.1
  have hsh : ∀ b, b < w.heap.size → OffM N ae M b → OffM N ae' M b := fun b hl hb => ⟨⟨hb.1.1, fun e => by
    rcases hs.row b e with h1 | h1
    · exact hb.1.2 h1
    · omega⟩, hb.2⟩
  have hcp := h.cat.shift h.cok hsh
  have hen := h.en.shift (Q := fun b => OffM N ae M b ∧ b < w.heap.size) (fun b hl hb => ⟨hb, hl⟩)
  exact ⟨(hs.block M hM hMN hMa).trans h.mem, (hen.touch hs.touch (fun b hb => hno b hb.1)).mono (fun b hb => hsh b hb.2 hb.1), h.cok.touch h.cat hs.touch hno, hcp⟩
/-- the document's log stored anew -/
theorem RfS.put {N : Nat} {ae : Option Addr} {M : Nat} {ix tm ix' tm' : Int} {c2 c3 : Cf} {a2 a3 : Option Addr} {n cap2 n' cap3 : Nat} {es2 es3 : List En} {w : World} (h : RfS N ae M ix tm c2 a2 n cap2 es2 w) (hen : EnAt w (OffM N ae M) es3 a3 n') (hok : c3.ok w) (hcp : CfP (OffM N ae M) c3) :
    RfS N ae M ix' tm' c3 a3 n' cap3 es3 (put5 w M (.int .i64 ix') (.int .i64 tm') (.slice c3.v.a c3.v.len c3.v.cap) (.slice c3.l.a c3.l.len c3.l.cap) (.slice a3 n' cap3)) := by
  have ht : Touch [M] w (put5 w M (.int .i64 ix') (.int .i64 tm') (.slice c3.v.a c3.v.len c3.v.cap) (.slice c3.l.a c3.l.len c3.l.cap) (.slice a3 n' cap3)) := put5_touch (Touch.refl _ _) (by simp)
  exact ⟨put5_block h.mem, hen.touch ht (fun b hb hm => by simp at hm; exact hb.2 hm), hok.touch hcp ht (fun b hb hm => by simp at hm; exact hb.2 hm), hcp⟩
theorem LogAt.putM {w : World} {base N : Nat} {ix tm : Int} {c : Cf} {es : List En} {ae : Option Addr} {n cap M : Nat} {cs : Array Value} {c0 c1 c2 c3 c4 : Value} (h : LogAt w base N ix tm c es ae n cap) (hM : w.heap[M]? = some (.cells cs 53 (0, 0))) : LogAt (put5 w M c0 c1 c2 c3 c4) base N ix tm c es ae n cap := by
  have ht : Touch [M] w (put5 w M c0 c1 c2 c3 c4) := put5_touch (Touch.refl _ _) (by simp)
  exact h.keepOn fun g hg hl => ht.block g hl (fun hm => by simp at hm; exact h.other hM g hg hm)
theorem below_putM {w v : World} {M : Nat} {c0 c1 c2 c3 c4 : Value} (h : Below v.heap.size v w) (hM : v.heap.size ≤ M) : Below v.heap.size v (put5 w M c0 c1 c2 c3 c4) :=
  (put5_touch (S := [M]) (Touch.refl _ _) (by simp)).below h h.size (fun k hk => by simp at hk; omega)
theorem off_new {w : World} {base N : Nat} {ix tm : Int} {c : Cf} {es : List En} {ae : Option Addr} {n cap M : Nat} (h : LogAt w base N ix tm c es ae n cap) (hM : M < w.heap.size) : ∀ b, w.heap.size ≤ b → OffM N ae M b := fun b hb =>
  ⟨⟨by have := lt_of_block h.cell; omega, fun e => by have := (h.on (.inr (.inr (.inr (.inl e))))).2; omega⟩, by omega⟩

/-- what holds between two steps -/
structure PlS (w : World) (B N M : Nat) (ix tm : Int) (c : Cf) (es : List En) (ae : Option Addr) (n cp : Nat) (c2 : Cf) (a2 : Option Addr) (cap2 : Nat) (es2 : List En) (wr : World) : Prop where
  log : LogAt wr B N ix tm c es ae n cp
  snd : Sound ix tm es
  all : AllR es
  sml : c.says.1.length ≤ 1048576 ∧ c.says.2.length ≤ 1048576
  ref : RfS N ae M ix tm c2 a2 n cap2 es2 wr
  says : es2.map En.says = es.map En.says
  conf : c2.says = c.says
  below : Below w.heap.size w wr
  size : B ≤ wr.heap.size
  lo : w.heap.size ≤ B
  loM : w.heap.size ≤ M
theorem PlS.later {w : World} {B N M : Nat} {ix tm : Int} {c : Cf} {es : List En} {ae : Option Addr} {n cp : Nat} {c2 : Cf} {a2 : Option Addr} {cap2 : Nat} {es2 : List En} {wr wz : World} (h : PlS w B N M ix tm c es ae n cp c2 a2 cap2 es2 wr) (hb : Below wr.heap.size wr wz) : PlS w B N M ix tm c es ae n cp c2 a2 cap2 es2 wz :=
  ⟨h.log.below hb, h.snd, h.all, h.sml, h.ref.later hb, h.says, h.conf, below_then h.below hb, Nat.le_trans h.size hb.size, h.lo, h.loM⟩
def PlX (w : World) (B N M : Nat) (wr : World) : Prop := ∃ (ix tm : Int) (c : Cf) (es : List En) (ae : Option Addr) (n cp : Nat) (c2 : Cf) (a2 : Option Addr) (cap2 : Nat) (es2 : List En), PlS w B N M ix tm c es ae n cp c2 a2 cap2 es2 wr
/-- the same stored over -/
theorem PlS.same {w : World} {B N M : Nat} {ix tm : Int} {c : Cf} {es : List En} {ae : Option Addr} {n cp : Nat} {c2 : Cf} {a2 : Option Addr} {cap2 : Nat} {es2 : List En} {wr : World} (h : PlS w B N M ix tm c es ae n cp c2 a2 cap2 es2 wr) : PlS w B N M ix tm c es ae n cp c2 a2 cap2 es2 (put5 wr M (.int .i64 ix) (.int .i64 tm) (.slice c2.v.a c2.v.len c2.v.cap) (.slice c2.l.a c2.l.len c2.l.cap) (.slice a2 n cap2)) :=
  ⟨h.log.putM h.ref.mem, h.snd, h.all, h.sml, h.ref.put h.ref.en h.ref.cok h.ref.cat, h.says, h.conf, below_putM h.below h.loM, by
    have ht : Touch [M] wr (put5 wr M (.int .i64 ix) (.int .i64 tm) (.slice c2.v.a c2.v.len c2.v.cap) (.slice c2.l.a c2.l.len c2.l.cap) (.slice a2 n cap2)) := put5_touch (Touch.refl _ _) (by simp)
    exact Nat.le_trans h.size ht.size, h.lo, h.loM⟩
/-- both have gone one step -/
theorem PlS.step {w : World} {B N M : Nat} {ix tm ix' tm' : Int} {c c' : Cf} {es es' : List En} {ae ae' : Option Addr} {n cp n' cp' : Nat} {c2 c3 : Cf} {a2 a3 : Option Addr} {cap2 cap3 : Nat} {es2 es3 : List En} {w6 w7 w8 : World} (h : PlS w B N M ix tm c es ae n cp c2 a2 cap2 es2 w6)
    (hL : LogAt w7 B N ix' tm' c' es' ae' n' cp') (hs : NStep w6 w7 N ae ae') (hsd : Sound ix' tm' es') (hal : AllR es') (hsm : c'.says.1.length ≤ 1048576 ∧ c'.says.2.length ≤ 1048576) (hb : Below w7.heap.size w7 w8)
    (hen : EnAt w8 (OffM N ae' M) es3 a3 n') (hok : c3.ok w8) (hcp : CfP (OffM N ae' M) c3) (hsay : es3.map En.says = es'.map En.says) (hcc : c3.says = c'.says) :
    PlS w B N M ix' tm' c' es' ae' n' cp' c3 a3 cap3 es3 (put5 w8 M (.int .i64 ix') (.int .i64 tm') (.slice c3.v.a c3.v.len c3.v.cap) (.slice c3.l.a c3.l.len c3.l.cap) (.slice a3 n' cap3)) := by
  have hr7 := h.ref.nstep h.log hs
  have hr8 := hr7.later hb
  have hb67 : Below w.heap.size w w7 := h.below.trans ((h.log.stepBelow hs h.size).mono h.lo)
  have hb8 := below_then hb67 hb
  have ht : Touch [M] w8 (put5 w8 M (.int .i64 ix') (.int .i64 tm') (.slice c3.v.a c3.v.len c3.v.cap) (.slice c3.l.a c3.l.len c3.l.cap) (.slice a3 n' cap3)) := put5_touch (Touch.refl _ _) (by simp)
  exact ⟨(hL.below hb).putM hr8.mem, hsd, hal, hsm, hr8.put hen hok hcp, hsay, hcc, below_putM hb8 h.loM, by have := h.size; have := hs.size; have := hb.size; have := ht.size; omega, h.lo, h.loM⟩
end Go.Proofs.Ytpaommkjafdghaa
