/- PackSums: the sum of all bytes is as the document says: the walk. -/
import Derived.Test.YtdpajcamgipgkaaSum
import Derived.Lib.SlBytesConst
namespace Go.Proofs.Ytdpajcamgipgkaa
open Go.RowKit

theorem crc_123 : Crc.crc [49, 50, 51, 52, 53, 54, 55, 56, 57] = 3808858755 := by decide +kernel

set_option maxRecDepth 100000 in
set_option maxHeartbeats 800000 in
theorem packSums_walk (a : Option Addr) (len cap : Nat) (bs : List UInt8) (w : World) (hr : Row8 w a len bs) (hlc : len ≤ cap) (hcm : cap ≤ maxLen) (_hn : a = none → cap = 0) :
    Calls Try.prog 3 #[.slice a len cap] w fun e w' => e = .returned (.bool true) ∧ Below w.heap.size w w' := by
  have HR := Lib.hid hr
  clear hr
  have hl : len ≤ maxLen := Nat.le_trans hlc hcm
  have kc := fun (w : World) (C : Array Value) (n c : Nat) => Lib.run_convert_bytes_const (P := Try.prog) w 22 5 C n c Try.underlying22 Try.underlying5
  go_enter Try.func3, Try.ntmps3
  go_wp2_with fail
  refine (sum_any (some ⟨w.heap.size, 0, none⟩) 9 9 [49, 50, 51, 52, 53, 54, 55, 56, 57] _ (Row8.new w _ _ _ _ 9 rfl rfl) (by decide)).mono ?_
  rintro e w' ⟨rfl, rfl⟩
  rw [crc_123]
  go_wp2_with fail
  refine (sum_any a len cap bs _ (HR.out.alloc _) hl).mono ?_
  rintro e w' ⟨rfl, rfl⟩
  go_wp2_with fail
  refine (refsum_any a len cap bs _ (HR.out.alloc _) hl).mono ?_
  rintro e w' ⟨rfl, rfl⟩
  go_wp2
  go_ret
  exact ⟨rfl, (Below.refl _ _).alloc (Nat.le_refl _) _⟩

end Go.Proofs.Ytdpajcamgipgkaa
