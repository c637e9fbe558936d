/- Frame and Unframe for every argument; the document's example of the layer. -/
import Derived.Test.YtdpajcamgipgkaaUnframe
import Derived.Lib.SlBytesConst
namespace Go.Proofs.Ytdpajcamgipgkaa
open Go.RowKit

def Fr.framed (p : List UInt8) : List UInt8 × Nat := if p.length ≤ 4096 then (Fr.frame p, 0) else ([], 2)

theorem RetBytesCode.to {w : World} {n n' : Nat} {bs bs' : List UInt8} {c c' : Nat} {e : Ending} {w' : World} (h : RetBytesCode w n bs c e w') (hn : n = n') (hb : bs = bs') (hc : c = c') : RetBytesCode w n' bs' c' e w' := by
  subst hn hb hc; exact h
theorem RetBytesCode2.to {w : World} {n n' : Nat} {bs bs' : List UInt8} {k k' c c' : Nat} {e : Ending} {w' : World} (h : RetBytesCode2 w n bs k c e w') (hn : n = n') (hb : bs = bs') (hk : k = k') (hc : c = c') : RetBytesCode2 w n' bs' k' c' e w' := by
  subst hn hb hk hc; exact h

theorem framed_yes {p : List UInt8} (h : p.length ≤ 4096) : Fr.framed p = (Fr.frame p, 0) := by rw [Fr.framed, if_pos h]
theorem framed_no {p : List UInt8} (h : ¬ p.length ≤ 4096) : Fr.framed p = ([], 2) := by rw [Fr.framed, if_neg h]

theorem frame_all (a : Option Addr) (len cap : Nat) (bs : List UInt8) (w : World) (hr : Row8 w a len bs) (hn : a = none → cap = 0) :
    Calls Try.prog 19 #[.slice a len cap] w (RetBytesCode w (Fr.framed bs).1.length (Fr.framed bs).1 (Fr.framed bs).2) := by
  by_cases h : len ≤ 4096
  · have e := framed_yes (p := bs) (by rw [hr.1]; exact h)
    exact (frame_yes a len cap bs w hr hn h).mono fun _ _ x => x.to (by rw [e, Fr.frame_length, hr.1]; omega) (by rw [e]) (by rw [e])
  · have e := framed_no (p := bs) (by rw [hr.1]; exact h)
    exact (frame_no a len cap w h).mono fun _ _ x => x.to (by rw [e]; rfl) (by rw [e]) (by rw [e])
theorem refframe_all (a : Option Addr) (len cap : Nat) (bs : List UInt8) (w : World) (hr : Row8 w a len bs) :
    Calls Try.prog 20 #[.slice a len cap] w (RetBytesCode w (Fr.framed bs).1.length (Fr.framed bs).1 (Fr.framed bs).2) := by
  by_cases h : len ≤ 4096
  · have e := framed_yes (p := bs) (by rw [hr.1]; exact h)
    exact (refframe_yes a len cap bs w hr h).mono fun _ _ x => x.to (by rw [e, Fr.frame_length, hr.1]; omega) (by rw [e]) (by rw [e])
  · have e := framed_no (p := bs) (by rw [hr.1]; exact h)
    exact (refframe_no a len cap w h).mono fun _ _ x => x.to (by rw [e]; rfl) (by rw [e]) (by rw [e])
theorem unframe_all (a : Option Addr) (len cap : Nat) (bs : List UInt8) (w : World) (hr : Row8 w a len bs) (hlc : len ≤ cap) (hcm : cap ≤ maxLen) :
    Calls Try.prog 22 #[.slice a len cap] w (RetBytesCode2 w (Fr.unframe bs).1.length (Fr.unframe bs).1 (Fr.unframe bs).2.1 (Fr.unframe bs).2.2) := by
  by_cases h : len < 8
  · have e := Fr.unframe_short (b := bs) (by rw [hr.1]; exact h)
    exact (unframe_short a len cap w h).mono fun _ _ x => x.to (by rw [e]; rfl) (by rw [e]) (by rw [e]) (by rw [e])
  · exact unframe_rest a len cap bs w hr hlc hcm h
theorem refunframe_all (a : Option Addr) (len cap : Nat) (bs : List UInt8) (w : World) (hr : Row8 w a len bs) (hlc : len ≤ cap) (hcm : cap ≤ maxLen) :
    Calls Try.prog 23 #[.slice a len cap] w (RetBytesCode2 w (Fr.unframe bs).1.length (Fr.unframe bs).1 (Fr.unframe bs).2.1 (Fr.unframe bs).2.2) := by
  by_cases h : len < 8
  · have e := Fr.unframe_short (b := bs) (by rw [hr.1]; exact h)
    exact (refunframe_short a len cap w h).mono fun _ _ x => x.to (by rw [e]; rfl) (by rw [e]) (by rw [e]) (by rw [e])
  · exact refunframe_rest a len cap bs w hr hlc hcm h

/-- 'string(b)' -/
theorem Row8.string {w : World} {a : Option Addr} {len cap : Nat} {bs : List UInt8} (h : Row8 w a len bs) (hl : 0 < len) :
    (convert 22 9 (.slice a len cap)).run Try.prog w = .ok (.string ⟨bs.toArray⟩) w := by
  obtain ⟨b, off, rfl, _⟩ := h.2 0 hl
  have e := run_convert_bytes_arg (P := Try.prog) w 22 5 Try.underlying22 Try.underlying5 b off len cap (bs.map fun c => ((c.toNat : Nat) : Int)) (by rw [List.length_map, h.1]) (fun i hi => by
    obtain ⟨b', off', he, hc⟩ := h.2 i hi
    simp only [Option.some.injEq, Addr.mk.injEq, and_true] at he
    obtain ⟨rfl, rfl⟩ := he
    rw [hc]
    have hb : i < bs.length := by rw [h.1]; exact hi
    rw [List.getD_eq_getElem?_getD, List.getD_eq_getElem?_getD, List.getElem?_map, List.getElem?_eq_getElem hb]
    rfl) 9 Try.underlying9
  rw [e]
  congr 2
  apply ByteArray.ext
  apply Array.toList_inj.1
  rw [strOfNums_data, List.map_map]
  show List.map _ bs = bs
  conv => rhs; rw [← List.map_id bs]
  apply List.map_congr_left
  intro x _
  simp

set_option maxRecDepth 100000 in
set_option maxHeartbeats 1000000 in
theorem framing_any (w : World) : Calls Try.prog 18 #[] w fun e w' => e = .returned (.bool true) ∧ Below w.heap.size w w' := by
  have kc := fun (w : World) (C : Array Value) (n c : Nat) => Lib.run_convert_bytes_const (P := Try.prog) w 22 5 C n c Try.underlying22 Try.underlying5
  go_enter Try.func18, Try.ntmps18
  go_wp2_with fail
  refine (frame_yes (some ⟨w.heap.size, 0, none⟩) 2 2 [104, 105] _ (Row8.new w _ _ _ _ 2 rfl rfl) (fun h => by cases h) (by decide)).mono ?_
  rintro e w1 ⟨ao1, cap1, rfl, hown1, hb1⟩
  have hz1 := hb1.size
  rw [World.size_alloc] at hz1
  have hb1' : Below w.heap.size w w1 := ((Below.refl _ _).alloc (Nat.le_refl _) _).trans (hb1.mono (by rw [World.size_alloc]; omega))
  go_wp2_with fail
  have hun : Fr.unframe (Fr.frame [104, 105]) = ([104, 105], 10, 0) := by
    have := Fr.unframe_frame [104, 105] [] (by decide)
    rwa [List.append_nil] at this
  have hua := unframe_all ao1 10 cap1 _ w1 hown1.row hown1.cap.1 hown1.cap.2
  rw [hun] at hua
  refine hua.mono ?_
  clear hua hun
  rintro e w2 ⟨ao2, cap2, rfl, hown2, hb2⟩
  replace hown2 : Own8 w2 w1.heap.size ao2 2 cap2 [104, 105] := hown2
  have hstr := hown2.row.string (cap := cap2) (by decide)
  go_wp2
  go_ret
  exact ⟨rfl, hb1'.trans (hb2.mono (by omega))⟩

end Go.Proofs.Ytdpajcamgipgkaa
