/- Values as bytes: pack.Put (out of the texts of pack). -/
import Derived.Test.YtpknmfmpiachkaaGreatCert1
import Derived.Laws.NewBlocks
import Derived.Deep.RegionHeld3
import Derived.Deep.AppendLies
namespace Go.Proofs.YtpknmfmpiachkaaGreat
open Go.RowKit
def RetBytesCode (w : World) (n : Nat) (bs : List UInt8) (code : Nat) (e : Ending) (w' : World) : Prop :=
 ∃ ao cap, e = .returned (.tuple #[.slice ao n cap, .int .i64 (code : Nat)]) ∧ Own8 w' w.heap.size ao n cap bs ∧ Below w.heap.size w w'
theorem byte8 (n : Nat) : (((UInt8.ofNat (n % 256)).toNat : Nat) : Int) = (n : Int) % 256 := by
 rw [UInt8.toNat_ofNat']
 omega
def RetJoin (w : World) (base : Nat) (row : Option Nat) (n : Nat) (bs : List UInt8) (e : Ending) (w' : World) : Prop :=
 ∃ ao cap, e = .returned (.slice ao n cap) ∧ Own8 w' base ao n cap bs ∧ w.grownBy w' row ∧ (Value.ownBlock (.slice ao n cap) = row ∨ ∃ g, Value.ownBlock (.slice ao n cap) = some g ∧ w.heap.size ≤ g)
def zig (n : Int) : Nat := if n < 0 then (-(n + 1)).toNat * 2 + 1 else n.toNat * 2
def lebF : Nat → Nat → List UInt8
 | 0, _ => []
 | f + 1, u => if u < 128 then [UInt8.ofNat u] else UInt8.ofNat (u % 128 + 128) :: lebF f (u / 128)
def numBytes (n : Int) : List UInt8 := lebF 10 (zig n)
theorem zig_lt (n : Int) (h : -9223372036854775808 ≤ n ∧ n ≤ 9223372036854775807) : zig n < 2 ^ 64 := by
 unfold zig
 split <;> omega
theorem lebF_len (f : Nat) : ∀ u, (lebF f u).length ≤ f := by
 induction f with
 | zero => intro u; simp [lebF]
 | succ f ih =>
   intro u
   rw [lebF]
   split
   · simp
   · have := ih (u / 128); simp only [List.length_cons]; omega
theorem numBytes_len (n : Int) : (numBytes n).length ≤ 10 := lebF_len 10 _
def keyBytes (u : Nat) : List UInt8 := (List.range 8).map fun i => UInt8.ofNat (u / 2 ^ (56 - 8 * i) % 256)
structure Vl where
 kind : Int
 n : Int
 x : Nat
 s : Sl
 on : Bool
def Vl.cells (v : Vl) : List Value := [.int .i64 v.kind, .int .i64 v.n, .float .f64 v.x, v.s.val, .bool v.on]
def Vl.ok (w : World) (v : Vl) : Prop := v.s.ok w ∧ v.x < 2 ^ 64 ∧ (-9223372036854775808 ≤ v.n ∧ v.n ≤ 9223372036854775807) ∧ (-9223372036854775808 ≤ v.kind ∧ v.kind ≤ 9223372036854775807)
def Vl.err (v : Vl) : Nat := if v.kind = 3 then (if v.s.len ≤ 4096 then 0 else 2) else if v.kind = 1 ∨ v.kind = 2 ∨ v.kind = 4 then 0 else 1
def Vl.bytes (v : Vl) : List UInt8 :=
 if v.kind = 1 then numBytes v.n else if v.kind = 2 then keyBytes (Flo.code v.x) else if v.kind = 3 then numBytes v.s.len ++ v.s.bs else [if v.on then 1 else 0]
def putAll : List Vl → List UInt8 → List UInt8 × Nat
 | [], acc => (acc, 0)
 | v :: r, acc => if v.err = 0 then putAll r (acc ++ v.bytes) else ([], v.err)
theorem putAll_ok {v : Vl} {r : List Vl} {acc : List UInt8} (h : v.err = 0) : putAll (v :: r) acc = putAll r (acc ++ v.bytes) := by rw [putAll, if_pos h]
theorem putAll_no {v : Vl} {r : List Vl} {acc : List UInt8} (h : v.err ≠ 0) : putAll (v :: r) acc = ([], v.err) := by rw [putAll, if_neg h]
def bulkV (vs : List Vl) : Nat := (vs.map fun v => v.s.len + 1).sum
theorem bulkV_cons (v : Vl) (r : List Vl) : bulkV (v :: r) = v.s.len + 1 + bulkV r := by simp [bulkV]
theorem bulkV_len (vs : List Vl) : vs.length ≤ bulkV vs := by
 induction vs with
 | nil => simp
 | cons v r ih => rw [bulkV_cons, List.length_cons]; omega
theorem bytes_len (v : Vl) (h : v.s.bs.length = v.s.len) : v.bytes.length ≤ 10 * (v.s.len + 1) := by
 unfold Vl.bytes
 have h1 := numBytes_len v.n
 have h2 := numBytes_len v.s.len
 split
 · omega
 split
 · simp [keyBytes]; omega
 split
 · rw [List.length_append]; omega
 · simp; omega
theorem or128 (c : Nat) (h : c < 256) : bits .or .u8 (c : Int) 128 = ((c % 128 + 128 : Nat) : Int) := by
 have hor : c ||| 2 ^ 7 = c % 128 + 128 := by
  apply Nat.eq_of_testBit_eq
  intro i
  have e : c % 128 + 128 = 2 ^ 7 * 1 + c % 2 ^ 7 := by omega
  rw [e, Nat.testBit_or, Nat.testBit_two_pow, Nat.two_pow_add_eq_or_of_lt (Nat.mod_lt _ (by decide)), Nat.testBit_or, Nat.mul_one, Nat.testBit_two_pow, Nat.testBit_mod_two_pow]
  by_cases hi : i < 7
  · simp [hi]; cases c.testBit i <;> simp
  · by_cases h7 : 7 = i
    · simp [h7]
    · have : c.testBit i = false := Nat.testBit_lt_two_pow (Nat.lt_of_lt_of_le h (show 2 ^ 8 ≤ 2 ^ i from Nat.pow_le_pow_right (by decide) (by omega)))
      simp [hi, h7, this]
 show IntKind.u8.wrap ((BitVec.ofInt 8 (c : Int) ||| BitVec.ofInt 8 ((2 ^ 7 : Nat) : Int)).toNat : Int) = _
 rw [BitVec.toNat_or, BitVec.ofInt_natCast, BitVec.ofInt_natCast, BitVec.toNat_ofNat, BitVec.toNat_ofNat, Nat.mod_eq_of_lt (show c < 2 ^ 8 by omega), Nat.mod_eq_of_lt (show 2 ^ 7 < 2 ^ 8 by decide), hor, IntKind.wrap_u8]
 omega
theorem grown_atStep {w w1 : World} {base : Nat} {ao : Option Addr} {n cap : Nat} {row : Option Nat} {v : Value} (hat : v.ownBlock = Value.ownBlock (.slice ao n cap) ∨ v.ownBlock = some w1.heap.size)
 (hr : Value.ownBlock (.slice ao n cap) = row ∨ ∃ g, Value.ownBlock (.slice ao n cap) = some g ∧ w.heap.size ≤ g) (hz : w.heap.size ≤ w1.heap.size) : v.ownBlock = row ∨ ∃ g, v.ownBlock = some g ∧ w.heap.size ≤ g := by
 have _ := base
 rcases hat with h | h
 · rcases hr with h2 | h2
   · exact .inl (h.trans h2)
   · exact .inr (by rw [h]; exact h2)
 · exact .inr ⟨_, h, hz⟩
theorem cells_u8 (x : Int) (c : UInt8) (h : x = (c.toNat : Nat)) : (#[Value.int .u8 x] : Array Value).toList.take 1 = cells8 [c] := by
 rw [h]; rfl
theorem zig_bits (x : Int) (h : -9223372036854775808 ≤ x ∧ x ≤ 9223372036854775807) : bits .xor .u64 (IntKind.u64.wrap (IntKind.u64.wrap x * 2)) (IntKind.u64.wrap (x / 9223372036854775808)) = ((zig x : Nat) : Int) := by
 unfold zig
 by_cases h0 : x < 0
 · rw [if_pos h0]
   have e1 : IntKind.u64.wrap (IntKind.u64.wrap x * 2) = (((x * 2 + 18446744073709551616).toNat : Nat) : Int) := by rw [IntKind.wrap_u64, IntKind.wrap_u64]; omega
   have e2 : x / 9223372036854775808 = -1 := by omega
   rw [e1, e2]
   show IntKind.u64.wrap ((BitVec.ofInt 64 (((x * 2 + 18446744073709551616).toNat : Nat) : Int) ^^^ BitVec.ofInt 64 (IntKind.u64.wrap (-1))).toNat : Int) = _
   rw [show BitVec.ofInt 64 (IntKind.u64.wrap (-1)) = BitVec.allOnes 64 from by decide, BitVec.xor_allOnes, BitVec.toNat_not, BitVec.ofInt_natCast, BitVec.toNat_ofNat, Nat.mod_eq_of_lt (by omega), IntKind.wrap_u64]
   omega
 · rw [if_neg h0]
   have e1 : IntKind.u64.wrap (IntKind.u64.wrap x * 2) = ((x.toNat * 2 : Nat) : Int) := by rw [IntKind.wrap_u64, IntKind.wrap_u64]; omega
   have e2 : x / 9223372036854775808 = 0 := by omega
   rw [e1, e2]
   show IntKind.u64.wrap ((BitVec.ofInt 64 ((x.toNat * 2 : Nat) : Int) ^^^ BitVec.ofInt 64 (IntKind.u64.wrap 0)).toNat : Int) = _
   rw [show BitVec.ofInt 64 (IntKind.u64.wrap 0) = 0#64 from by decide, BitVec.xor_zero, BitVec.ofInt_natCast, BitVec.toNat_ofNat, Nat.mod_eq_of_lt (by omega), IntKind.wrap_u64]
   omega
theorem lebF_last (f u : Nat) (h : u < 128) : lebF (f + 1) u = [UInt8.ofNat u] := by rw [lebF, if_pos h]
theorem lebF_more (f u : Nat) (h : ¬ u < 128) : lebF (f + 1) u = UInt8.ofNat (u % 128 + 128) :: lebF f (u / 128) := by rw [lebF, if_neg h]
set_option maxRecDepth 100000 in
set_option maxHeartbeats 1600000 in
theorem appendNum_any (base : Nat) (ao : Option Addr) (n cap : Nat) (xs : List UInt8) (x : Int) (w : World) (hown : Own8 w base ao n cap xs) (hbase : base ≤ w.heap.size) (hbig : n ≤ 100000000000000)
 (hx : (-9223372036854775808 : Int) ≤ x ∧ x ≤ 9223372036854775807) :
 Calls Tryz.prog 75 #[.slice ao n cap, .int .i64 x] w (RetJoin w base (Value.ownBlock (.slice ao n cap)) (n + (numBytes x).length) (xs ++ numBytes x)) := by
 have HX := Lib.hid hx
 have HO := Lib.hid hown
 clear hown hx
 obtain ⟨row, hrw⟩ : ∃ row, row = Value.ownBlock (.slice ao n cap) := ⟨_, rfl⟩
 rw [← hrw]
 have HW := Lib.hid hrw
 clear hrw
 go_enter Tryz.func75, Tryz.ntmps75
 go_wp2
 rw [zig_bits x HX.out]
 go_loopw [0, 5] (fun v u wr => ∃ (f un : Nat) (pre : List UInt8) (nk : Nat) (ak : Option Addr) (ck : Nat), un < 2 ^ (7 * (f + 1)) ∧ un < 18446744073709551616 ∧ Hid (numBytes x = pre ++ lebF (f + 1) un) ∧ Hid (nk = n + pre.length) ∧ nk ≤ n + 10 ∧ u = .int .u64 un ∧ v = .slice ak nk ck ∧ Own8 wr base ak nk ck (xs ++ pre) ∧ w.grownBy wr row ∧ (Value.ownBlock (.slice ak nk ck) = row ∨ ∃ g, Value.ownBlock (.slice ak nk ck) = some g ∧ w.heap.size ≤ g)) (fun _ u _ => (intOf u).toNat)
 case atStart =>
  have hz := zig_lt x HX.out
  exact ⟨9, zig x, [], n, ao, cap, by omega, by omega, rfl, rfl, by omega, rfl, rfl, by simpa using HO.out, World.grownBy.refl _ _, .inl HW.out.symm⟩
 case round =>
  obtain ⟨f, un, pre, nk, ak, ck, hf, hun, HP, HN, hnk, rfl, rfl, hok, hg, hrk⟩ := hrel
  have HRK := Lib.hid hrk
  have HG := Lib.hid hg
  have HOK := Lib.hid hok
  have HF := Lib.hid hf
  have hsz := hg.size
  clear hrk hg hok hf
  by_cases hlt : un < 128
  · have hu128 : (un : Int) < 128 := by omega
    have hc : (un : Int) = ((UInt8.ofNat un).toNat : Nat) := by rw [UInt8.toNat_ofNat']; omega
    have HC := Lib.hid hc
    clear hc
    go_wp2_with (at_builtin; refine wpList_append8 rfl (.tmp 23) (.tmp 26) rfl base ak nk ck (xs ++ pre) rfl (HOK.out.below (B := wr.heap.size) ((Below.refl _ _).alloc (Nat.le_refl _) _) (Nat.le_refl _)) (some ⟨wr.heap.size, 0, none⟩) 1 1 [UInt8.ofNat un] rfl (Row8.new _ _ _ _ [UInt8.ofNat un] 1 rfl (cells_u8 _ _ HC.out)) (fun h => by cases h) (by omega) (by simp; omega) (nk + 1) rfl ?_; intro ao' cap' w1 hown1 hg1 hat1)
    go_ret
    have hN : nk + 1 = n + (numBytes x).length := by have := HN.out; rw [HP.out, lebF_last _ _ hlt, List.length_append]; simp; omega
    rw [← hN, HP.out, lebF_last _ _ hlt, ← List.append_assoc]
    exact ⟨ao', cap', rfl, hown1, grown_step (grown_step HG.out (World.grownBy_alloc _ _ _) (.inl rfl)) hg1 HRK.out, grown_atStep (base := base) hat1 HRK.out (by rw [World.size_alloc]; omega)⟩
  · have hu128 : (128 : Int) ≤ (un : Int) := by omega
    have hc : bits .or .u8 ((un : Int) % 256) 128 = ((UInt8.ofNat (un % 128 + 128)).toNat : Nat) := by
     have h1 := or128 (un % 256) (by omega)
     rw [show (un : Int) % 256 = ((un % 256 : Nat) : Int) from by omega, h1, UInt8.toNat_ofNat']
     omega
    have HC := Lib.hid hc
    clear hc
    go_wp2_with (at_builtin; refine wpList_append8 rfl (.tmp 17) (.tmp 21) rfl base ak nk ck (xs ++ pre) rfl (HOK.out.below (B := wr.heap.size) ((Below.refl _ _).alloc (Nat.le_refl _) _) (Nat.le_refl _)) (some ⟨wr.heap.size, 0, none⟩) 1 1 [UInt8.ofNat (un % 128 + 128)] rfl (Row8.new _ _ _ _ [UInt8.ofNat (un % 128 + 128)] 1 rfl (cells_u8 _ _ HC.out)) (fun h => by cases h) (by omega) (by simp; omega) (nk + 1) rfl ?_; intro ao' cap' w1 hown1 hg1 hat1)
    have hl10 : nk + 1 ≤ n + 10 := by
     have h1 := numBytes_len x
     have h2 := HN.out
     rw [HP.out, lebF_more _ _ hlt, List.length_append, List.length_cons] at h1
     omega
    have hf0 : f ≠ 0 := by
     rintro rfl
     have := HF.out
     omega
    obtain ⟨f', rfl⟩ : ∃ f', f = f' + 1 := ⟨f - 1, by omega⟩
    go_roundw
    case rel =>
     refine ⟨f', un / 128, pre ++ [UInt8.ofNat (un % 128 + 128)], nk + 1, ao', cap', ?_, by omega, ?_, ?_, hl10, by go_num, rfl, ?_, grown_step (grown_step HG.out (World.grownBy_alloc _ _ _) (.inl rfl)) hg1 HRK.out, grown_atStep (base := base) hat1 HRK.out (by rw [World.size_alloc]; omega)⟩
     · have h1 := HF.out
       rw [show 7 * (f' + 1 + 1) = 7 * (f' + 1) + 7 from by omega, Nat.pow_add] at h1
       exact Nat.div_lt_of_lt_mul (by rw [Nat.mul_comm]; exact h1)
     · show _ = _
       rw [HP.out, lebF_more _ _ hlt, List.append_assoc]
       rfl
     · show _ = _
       have := HN.out
       rw [List.length_append]
       simp
       omega
     · rw [← List.append_assoc]
       exact hown1
    case measure => simp [intOf]; omega
theorem key_len (u : Nat) : (keyBytes u).length = 8 := by simp [keyBytes]
theorem key_at (u k : Nat) (h : k < 8) : (keyBytes u)[k]'(by rw [key_len]; exact h) = UInt8.ofNat (u / 2 ^ (56 - 8 * k) % 256) := by
 simp [keyBytes, List.getElem_map]
theorem key_take (u k : Nat) (h : k < 8) : (keyBytes u).take (k + 1) = (keyBytes u).take k ++ [UInt8.ofNat (u / 2 ^ (56 - 8 * k) % 256)] := by
 rw [List.take_succ_eq_append_getElem (by rw [key_len]; exact h), key_at u k h]
theorem vls_at {w : World} {a : Option Addr} {len : Nat} {vs : List Vl} (hr : RowN w a 5 len (vs.flatMap Vl.cells)) (hs : vs.length = len) (k : Nat) (hk : k < len) (v : Vl) (hv : vs[k]? = some v) :
 ∃ b off, a = some ⟨b, off, none⟩ ∧ w.cell? ⟨b, off + k * 5, none⟩ = some (.int .i64 v.kind) ∧ w.cell? ⟨b, off + k * 5 + 1, none⟩ = some (.int .i64 v.n) ∧ w.cell? ⟨b, off + k * 5 + 2, none⟩ = some (.float .f64 v.x) ∧
  w.cell? ⟨b, off + k * 5 + 3, none⟩ = some (v.s.val) ∧ w.cell? ⟨b, off + k * 5 + 4, none⟩ = some (.bool v.on) := by
 obtain ⟨b, off, ha, hc⟩ := hr.2 (by omega)
 have hcell : ∀ i u, i < 5 → v.cells[i]? = some u → (vs.flatMap Vl.cells)[k * 5 + i]? = some u := by
  clear hr hc ha
  intro i u hi hu
  clear hs hk
  induction vs generalizing k with
  | nil => simp at hv
  | cons x r ih =>
    rw [List.flatMap_cons]
    cases k with
    | zero =>
      simp only [List.getElem?_cons_zero, Option.some.injEq] at hv
      subst hv
      rw [List.getElem?_append_left (by simp [Vl.cells]; omega), Nat.zero_mul, Nat.zero_add]
      exact hu
    | succ k =>
      rw [List.getElem?_append_right (by simp [Vl.cells]; omega)]
      rw [List.getElem?_cons_succ] at hv
      have e : (k + 1) * 5 + i - (Vl.cells x).length = k * 5 + i := by simp [Vl.cells]; omega
      rw [e]
      exact ih k hv
 exact ⟨b, off, ha, hc _ _ (hcell 0 _ (by omega) rfl), by rw [Nat.add_assoc]; exact hc _ _ (hcell 1 _ (by omega) rfl), by rw [Nat.add_assoc]; exact hc _ _ (hcell 2 _ (by omega) rfl), by rw [Nat.add_assoc]; exact hc _ _ (hcell 3 _ (by omega) rfl), by rw [Nat.add_assoc]; exact hc _ _ (hcell 4 _ (by omega) rfl)⟩
theorem step_append8 {w : World} {ops : Array Oper} {o : Oper} {a : Act} {K : Act → World → Prop} {Q : Exit → Act → World → Prop} {E : Prop} (hgd : o.guard = none) (s x : Operand)
 (ho : o.op = .call { callee := .builtin .append, args := #[s, x], argTypes := #[53, 53] })
 (base : Nat) (ao : Option Addr) (n cap : Nat) (bs : List UInt8) (hs : a.eval s = .slice ao n cap) (hown : Own8 w base ao n cap bs)
 (ax : Option Addr) (m c : Nat) (xs : List UInt8) (hx : a.eval x = .slice ax m c) (hrow : Row8 w ax m xs) (hnil : ax = none → c = 0) (hbig : n + m ≤ 140737488355328) (hbase : base ≤ w.heap.size) (N : Nat) (hN : n + m = N)
 (h : ∀ ao' cap' w', Own8 w' base ao' N cap' (bs ++ xs) → w.grownBy w' (Value.ownBlock (.slice ao n cap)) →
  (Value.ownBlock (.slice ao' N cap') = Value.ownBlock (.slice ao n cap) ∨ Value.ownBlock (.slice ao' N cap') = some w.heap.size) → K (a.put o.dst (.slice ao' N cap')) w') :
 if Region.wanted o (yielded ops a.tmps) = true then Oper.wp Tryz.prog o a w K Q else E := by
 subst hN
 have hw : Region.wanted o (yielded ops a.tmps) = true := by simp [Region.wanted, hgd]
 rw [if_pos hw]
 obtain ⟨i0, hi, hz0, hz1, hz2⟩ := info_parts info_byte
 obtain ⟨ao', cap', w', hr, h2, h3, h4⟩ := run_append_row (P := Tryz.prog) w base 53 o.type 5 i0 (.int .u8 0) 1 1 Tryz.underlying53 hi hz0 hz1 hz2 rfl (by decide) ao n cap (cells8 bs) hown ax m c (cells8 xs) (by rw [cells8_length, hrow.1]; omega) hrow.news hnil (cells8_one _) (by simp only [maxLen]; omega) (by omega) hbase
 rw [← cells8_append] at h2
 unfold Oper.wp execOp
 simp only [ho, resolve, invoke, builtin, Sem.run_bind, Sem.run_pure, Result.andThen_ok, List.map_toArray, List.map_cons, List.map_nil, hs, hx, hr]
 exact h ao' cap' w' h2 h3 h4
theorem put_next {vs : List Vl} {k : Nat} {v : Vl} {acc : List UInt8} {R : List UInt8 × Nat} {B : Nat} (HD : vs.drop k = v :: vs.drop (k + 1)) (he : v.err = 0) (hb : v.s.bs.length = v.s.len) (HP : putAll (vs.drop k) acc = R) (HL : acc.length + 10 * bulkV (vs.drop k) ≤ B) :
 Hid (putAll (vs.drop (k + 1)) (acc ++ v.bytes) = R) ∧ Hid ((acc ++ v.bytes).length + 10 * bulkV (vs.drop (k + 1)) ≤ B) := by
 rw [HD, putAll_ok he] at HP
 rw [HD, bulkV_cons] at HL
 have := bytes_len v hb
 refine ⟨HP, ?_⟩
 show _ ≤ _
 rw [List.length_append]
 omega
theorem put_stop {vs : List Vl} {k : Nat} {v : Vl} {acc : List UInt8} {R : List UInt8 × Nat} {c : Nat} (HD : vs.drop k = v :: vs.drop (k + 1)) (he : v.err = c) (hc : c ≠ 0) (HP : putAll (vs.drop k) acc = R) : R = ([], c) := by
 rw [HD, putAll_no (by rw [he]; exact hc), he] at HP
 exact HP.symm
theorem Row8.new2 (w : World) (o : Obj) (cs : Array Value) (e : TypeId) (fr : Nat × Nat) (bs : List UInt8) (n H : Nat) (hn : bs.length = n) (hcs : cs.toList.take bs.length = cells8 bs) (hH : H = w.heap.size + 1) : Row8 ((w.alloc o).alloc (.cells cs e fr)) (some ⟨H, 0, none⟩) n bs := by
 have := Row8.new (w.alloc o) cs e fr bs n hn hcs
 rw [World.size_alloc, ← hH] at this
 exact this
theorem box_cell (w : World) (cs : Array Value) (t : TypeId) (i : Nat) (v : Value) (h : cs[i]? = some v) : (w.alloc (.cells cs t)).cell? ⟨w.heap.size, i, none⟩ = some v := by
 rw [World.cell?_alloc_at _ _ _ _ rfl]
 exact h
theorem far_box {wr X : World} {B : Nat} {r1 r2 : Option Nat} (hrow : ∀ g, r1 = some g → B ≤ g ∧ g < wr.heap.size) (hB : B ≤ wr.heap.size) (hX : X.heap.size = wr.heap.size + 1) (hat : r2 = r1 ∨ ∃ g, r2 = some g ∧ X.heap.size ≤ g) : ∀ g, r2 = some g → B ≤ g ∧ g ≠ wr.heap.size := by
 intro g hg
 rcases hat with h | ⟨g', h, hl⟩
 · have := hrow g (h.symm.trans hg); omega
 · rw [h] at hg; injection hg; omega
theorem held_far {w2 w3 : World} {row : Option Nat} {H i : Nat} {v : Value} (hg : w2.grownBy w3 row) (hne : ∀ g, row = some g → g ≠ H) (hc : w2.cell? ⟨H, i, none⟩ = some v) : w3.cell? ⟨H, i, none⟩ = some v :=
 hg.cell hc (fun e => hne _ e.symm rfl)
theorem below_box {w wr w2 : World} {o : Obj} {row : Option Nat} (hb : Below w.heap.size w wr) (hg : (wr.alloc o).grownBy w2 row) (hrow : ∀ g, row = some g → w.heap.size ≤ g) : Below w.heap.size w w2 :=
 (hb.alloc hb.size o).grown hg (by rw [World.size_alloc]; have := hb.size; omega) hrow
theorem grown_undrew {w w2 : World} {row : Option Nat} (hg : w.drew.grownBy w2 row) : w.grownBy w2 row := ⟨hg.os, hg.tape, hg.output, hg.size, hg.block⟩
theorem held_box {wr w2 : World} {o : Obj} {row : Option Nat} {i : Nat} {v : Value} (hg : (wr.alloc o).grownBy w2 row) (hrow : ∀ g, row = some g → g < wr.heap.size) (hc : (wr.alloc o).cell? ⟨wr.heap.size, i, none⟩ = some v) : w2.cell? ⟨wr.heap.size, i, none⟩ = some v :=
 hg.cell hc (fun e => by have := hrow _ e.symm; simp at this)
set_option maxRecDepth 100000 in
set_option maxHeartbeats 3200000 in
theorem packPut_any (a : Option Addr) (len cap : Nat) (vs : List Vl) (w : World) (hr : RowN w a 5 len (vs.flatMap Vl.cells)) (hs : vs.length = len) (hok : ∀ v ∈ vs, Vl.ok w v) (hbulk : bulkV vs ≤ 4294967296) :
 Calls Tryz.prog 41 #[.slice a len cap] w (RetBytesCode w (putAll vs []).1.length (putAll vs []).1 (putAll vs []).2) := by
 have hlb := bulkV_len vs
 have hstf := store_float
 have hlen : len ≤ 4294967296 := by omega
 have HB := Lib.hid hbulk
 have HR := Lib.hid hr
 have HK := Lib.hid hok
 have HS := Lib.hid hs
 clear hr hok hs hbulk hlb
 go_enter Tryz.func41, Tryz.ntmps41
 go_wp2_with fail
 go_loopw [4, 12] (fun v i wr => ∃ (k : Nat) (acc : List UInt8) (nk : Nat) (ak : Option Addr) (ck : Nat), k ≤ len ∧ Hid (putAll (vs.drop k) acc = putAll vs []) ∧ Hid (acc.length + 10 * bulkV (vs.drop k) ≤ 10 * bulkV vs) ∧ i = .int .i64 k ∧ v = .slice ak nk ck ∧ Own8 wr w.heap.size ak nk ck acc ∧ Below w.heap.size w wr) (fun _ i _ => len - (intOf i).toNat)
 case atStart => exact ⟨0, [], 0, none, 0, by omega, rfl, by show _ ≤ _; simp, rfl, rfl, Own8.nil _ _, Below.refl _ _⟩
 case round =>
  obtain ⟨k, acc, nk, ak, ck, hk, HP, HL, rfl, rfl, hoa, hbw⟩ := hrel
  have hsz := hbw.size
  by_cases hlt : k < len
  · obtain ⟨v, hv⟩ : ∃ v, vs[k]? = some v := ⟨_, List.getElem?_eq_getElem (by rw [HS.out]; exact hlt)⟩
    have hmem : v ∈ vs := List.mem_of_getElem? hv
    obtain ⟨b, off, rfl, hc0, hc1, hc2, hc3, hc4⟩ := vls_at (HR.out.below hbw) HS.out k hlt v hv
    have hdr : vs.drop k = v :: vs.drop (k + 1) := by rw [List.drop_eq_getElem?_toList_append, hv]; rfl
    have HD := Lib.hid hdr
    have HV := Lib.hid (HK.out v hmem)
    clear hmem hdr hv
    obtain ⟨kind, n, x, s, on⟩ := v
    have HBW := Lib.hid hbw
    have HOA := Lib.hid hoa
    clear hbw hoa
    simp only [Sl.val] at hc0 hc1 hc2 hc3 hc4
    have hkl : (k : Int) < (len : Int) := by omega
    have hbl : ∀ g, Value.ownBlock (.slice ak nk ck) = some g → w.heap.size ≤ g ∧ g < wr.heap.size := HOA.out.block
    have HBL := Lib.hid hbl
    clear hbl
    have hl1 : nk + 10 * (s.len + 1) ≤ 10 * 4294967296 := by
     have h1 := HL.out
     have h2 := HB.out
     have h3 := HOA.out.length
     rw [HD.out, bulkV_cons] at h1
     simp only at h1
     omega
    have hobx : ∀ o, Own8 (wr.alloc o) w.heap.size ak nk ck acc := fun o => HOA.out.below ((Below.refl _ _).alloc (Nat.le_refl _) o) (Nat.le_refl _)
    have HOX := Lib.hid hobx
    have hobx2 : ∀ o o2, Own8 ((wr.alloc o).alloc o2) w.heap.size ak nk ck acc := fun o o2 => (hobx o).below ((Below.refl _ _).alloc (Nat.le_refl _) o2) (Nat.le_refl _)
    have HOX2 := Lib.hid hobx2
    clear hobx hobx2
    by_cases k1 : kind = 1
    · subst k1
      have HERR : Hid (Vl.err ⟨1, n, x, s, on⟩ = 0) := rfl
      go_wp2_with fail
      refine (appendNum_any w.heap.size ak nk ck acc n _ (HOX.out _) (by rw [World.size_alloc]; omega) (by omega) HV.out.2.2.1).mono ?_
      rintro e w2 ⟨ao2, cap2, rfl, hown2, hg2, hat2⟩
      go_wp2_with fail
      go_roundw
      case rel =>
       obtain ⟨r1, r2⟩ := put_next HD.out HERR.out HV.out.1.1.1 HP.out HL.out
       exact ⟨k + 1, _, _, _, _, by omega, r1, r2, by go_num, rfl, hown2, below_box HBW.out hg2 (fun g hg => (HBL.out g hg).1)⟩
      case measure => simp [intOf]; omega
    by_cases k2 : kind = 2
    · subst k2
      have HERR : Hid (Vl.err ⟨2, n, x, s, on⟩ = 0) := rfl
      have hcl : Flo.code x < 18446744073709551616 := by
       rcases Flo.code_lt x with h | h
       · exact h
       · exact absurd HV.out.2.1 (by simpa using h)
      obtain ⟨u, hu⟩ : ∃ u, u = Flo.code x := ⟨_, rfl⟩
      rw [← hu] at hcl
      have HU := Lib.hid hu
      clear hu
      go_wp2_with fail
      refine (code_any x _ HV.out.2.1).mono ?_
      rintro e w1 ⟨rfl, rfl⟩
      rw [← HU.out]
      go_wp2_with fail
      have hsz' : wr.heap.size + 1 ≤ wr.heap.size + 1 := Nat.le_refl _
      obtain ⟨W, hW⟩ : ∃ W, W = (wr.alloc (.cells #[.int .i64 2, .int .i64 n, .float .f64 x, .slice s.a s.len s.cap, .bool on] 97)) := ⟨_, rfl⟩
      have HW1 : Hid (Own8 W w.heap.size ak nk ck acc) := by rw [hW]; exact HOX.out _
      have HW2 : Hid (Below w.heap.size w W) := by rw [hW]; exact HBW.out.alloc hsz _
      rw [← hW]
      have hzW := HW2.out.size
      clear hW
      go_loopw [4, 8] (fun v i wq => ∃ (j : Nat) (aj : Option Addr) (cj : Nat), j ≤ 8 ∧ i = .int .i64 (56 - 8 * (j : Int)) ∧ v = .slice aj (nk + j) cj ∧ Own8 wq w.heap.size aj (nk + j) cj (acc ++ (keyBytes u).take j) ∧ Below w.heap.size w wq) (fun _ i _ => (intOf i + 8).toNat)
      case atStart => exact ⟨0, ak, ck, by omega, rfl, rfl, by simpa using HW1.out, HW2.out⟩
      case round =>
       obtain ⟨j, aj, cj, hj, rfl, rfl, hoj, hbj⟩ := hrel
       have hzj := hbj.size
       have HOJ := Lib.hid hoj
       have HBJ := Lib.hid hbj
       clear hoj hbj
       by_cases hj8 : j < 8
       · have hge : (0 : Int) ≤ 56 - 8 * (j : Int) := by omega
         have hc : (u : Int) / 2 ^ (56 - 8 * j) % 256 = ((UInt8.ofNat (u / 2 ^ (56 - 8 * j) % 256)).toNat : Nat) := by
          rw [byte8, Int.natCast_ediv, Int.natCast_pow]
          rfl
         obtain ⟨y, hy⟩ : ∃ y, y = UInt8.ofNat (u / 2 ^ (56 - 8 * j) % 256) := ⟨_, rfl⟩
         rw [← hy] at hc
         have HY := Lib.hid hy
         have HC := Lib.hid hc
         clear hy hc
         go_wp2_with (at_builtin; refine wpList_append8 rfl (.tmp 33) (.tmp 38) rfl w.heap.size aj (nk + j) cj (acc ++ (keyBytes u).take j) rfl (HOJ.out.below (B := wr.heap.size) ((Below.refl _ _).alloc (Nat.le_refl _) _) (Nat.le_refl _)) (some ⟨wr.heap.size, 0, none⟩) 1 1 [y] rfl (Row8.new _ _ _ _ [y] 1 rfl (cells_u8 _ _ HC.out)) (fun h => by cases h) (by omega) (by simp; omega) (nk + (j + 1)) (by omega) ?_; intro ao' cap' w1 hown1 hg1 hat1)
         go_roundw
         case rel =>
          refine ⟨j + 1, ao', cap', by omega, val_int (by omega), rfl, ?_, (HBJ.out.alloc hzj _).grown hg1 (by rw [World.size_alloc]; omega) (fun g hg => (HOJ.out.block g hg).1)⟩
          rw [key_take u j hj8, ← HY.out, ← List.append_assoc]
          exact hown1
         case measure => simp [intOf]; omega
       · have hj8' : j = 8 := by omega
         subst hj8'
         go_wp2_with fail
         go_roundw
         case rel =>
          obtain ⟨r1, r2⟩ := put_next HD.out HERR.out HV.out.1.1.1 HP.out HL.out
          exact ⟨k + 1, _, _, _, _, by omega, r1, r2, by go_num, rfl, (by have h := HOJ.out; rw [List.take_of_length_le (by rw [key_len]; omega)] at h; rw [show Vl.bytes ⟨2, n, x, s, on⟩ = keyBytes u from by rw [HU.out]; rfl]; exact h), HBJ.out⟩
         case measure => simp [intOf]; omega
    by_cases k3 : kind = 3
    · subst k3
      by_cases h4 : s.len ≤ 4096
      · have h4' : ¬ (4096 : Int) < (s.len : Int) := by omega
        have HERR : Hid (Vl.err ⟨3, n, x, s, on⟩ = 0) := by
         show _ = _
         simp [Vl.err, h4]
        go_wp2_with fail
        go_region_held3 (fun w' => w'.cell? ⟨wr.heap.size, 3, none⟩ = some (.slice s.a s.len s.cap))
         (first | go_keep | exact held_box (grown_undrew hg2) (fun g hg => (HBL.out g hg).2) (box_cell _ _ _ _ _ rfl) | exact held_far hg3 (fun g hg => (far_box HBL.out hsz (World.size_alloc _ _) hat2 g hg).2) (held_box (grown_undrew hg2) (fun g hg => (HBL.out g hg).2) (box_cell _ _ _ _ _ rfl)))
         ((first
           | (go_simp; go_at_call 75; refine (appendNum_any w.heap.size ak nk ck acc (s.len : Int) _ (by exact HOX.out _) (by show _ ≤ (wr.alloc _).heap.size; rw [World.size_alloc]; omega) (by omega) (by omega)).mono ?_; rintro e w2 ⟨ao2, cap2, rfl, hown2, hg2, hat2⟩)
           | (refine step_append8 rfl (.tmp 50) (.tmp 52) rfl w.heap.size ao2 (nk + (numBytes (s.len : Int)).length) cap2 (acc ++ numBytes (s.len : Int)) rfl hown2 s.a s.len s.cap s.bs rfl (HV.out.1.1.below (below_box HBW.out (grown_undrew hg2) (fun g hg => (HBL.out g hg).1))) HV.out.1.2.2.2 (by have := numBytes_len (s.len : Int); omega) (by have := hg2.size; have e : (wr.alloc (.cells #[.int .i64 3, .int .i64 n, .float .f64 x, .slice s.a s.len s.cap, .bool on] 97)).drew.heap.size = wr.heap.size + 1 := World.size_alloc _ _; omega) _ rfl ?_; intro ao3 cap3 w3 hown3 hg3 hat3)))
        go_wp2_with fail
        go_roundw
        case rel =>
         obtain ⟨r1, r2⟩ := put_next HD.out HERR.out HV.out.1.1.1 HP.out HL.out
         exact ⟨k + 1, _, _, _, _, by omega, r1, r2, by go_num, rfl, by rw [List.append_assoc] at hown3; exact hown3, (below_box HBW.out (grown_undrew hg2) (fun g hg => (HBL.out g hg).1)).grown hg3 (by have := hg2.size; have e : w.heap.size ≤ w2.heap.size := Nat.le_trans (Nat.le_trans hsz (by rw [World.size_alloc]; omega)) (grown_undrew hg2).size; exact e) (fun g hg => (far_box HBL.out hsz (World.size_alloc _ _) hat2 g hg).1)⟩
        case measure => simp [intOf]; omega
      · have h4' : (4096 : Int) < (s.len : Int) := by omega
        go_wp2_with fail
        go_ret2
        rw [put_stop HD.out (c := 2) (by simp [Vl.err, h4]) (by decide) HP.out]
        exact ⟨none, 0, rfl, Own8.nil _ _, HBW.out.alloc hsz _⟩
    by_cases k4 : kind = 4
    · subst k4
      have HERR : Hid (Vl.err ⟨4, n, x, s, on⟩ = 0) := rfl
      cases on with
      | true =>
        go_wp2_with (at_builtin; refine wpList_append8 rfl (.tmp 58) (.tmp 60) rfl w.heap.size ak nk ck acc rfl (HOX2.out _ _) (some ⟨wr.heap.size + 1, 0, none⟩) 1 1 [1] rfl (Row8.new2 _ _ _ _ _ [1] 1 _ rfl rfl rfl) (fun h => by cases h) (by omega) (by simp; omega) (nk + 1) rfl ?_; intro ao' cap' w1 hown1 hg1 hat1)
        go_roundw
        case rel =>
         obtain ⟨r1, r2⟩ := put_next HD.out HERR.out HV.out.1.1.1 HP.out HL.out
         exact ⟨k + 1, _, _, _, _, by omega, r1, r2, by go_num, rfl, hown1, ((HBW.out.alloc hsz _).alloc (by rw [World.size_alloc]; omega) _).grown hg1 (by rw [World.size_alloc, World.size_alloc]; omega) (fun g hg => (HBL.out g hg).1)⟩
        case measure => simp [intOf]; omega
      | false =>
        go_wp2_with (at_builtin; refine wpList_append8 rfl (.tmp 58) (.tmp 60) rfl w.heap.size ak nk ck acc rfl (HOX2.out _ _) (some ⟨wr.heap.size + 1, 0, none⟩) 1 1 [0] rfl (Row8.new2 _ _ _ _ _ [0] 1 _ rfl rfl rfl) (fun h => by cases h) (by omega) (by simp; omega) (nk + 1) rfl ?_; intro ao' cap' w1 hown1 hg1 hat1)
        go_roundw
        case rel =>
         obtain ⟨r1, r2⟩ := put_next HD.out HERR.out HV.out.1.1.1 HP.out HL.out
         exact ⟨k + 1, _, _, _, _, by omega, r1, r2, by go_num, rfl, hown1, ((HBW.out.alloc hsz _).alloc (by rw [World.size_alloc]; omega) _).grown hg1 (by rw [World.size_alloc, World.size_alloc]; omega) (fun g hg => (HBL.out g hg).1)⟩
        case measure => simp [intOf]; omega
    · have hne1 : kind ≠ 1 := k1
      go_wp2_with fail
      go_ret2
      rw [put_stop HD.out (c := 1) (by simp [Vl.err, k1, k2, k3, k4]) (by decide) HP.out]
      exact ⟨none, 0, rfl, Own8.nil _ _, HBW.out.alloc hsz _⟩
  · have hke : k = len := by omega
    subst hke
    have hd0 : vs.drop k = [] := List.drop_of_length_le (by rw [HS.out]; exact Nat.le_refl _)
    have hp := HP.out
    rw [hd0, putAll] at hp
    have HP2 := Lib.hid hp
    clear hp hd0
    have hna := hoa.length
    have HOA := Lib.hid hoa
    clear hoa
    go_wp2_with fail
    go_ret2
    rw [← HP2.out]
    subst hna
    exact ⟨ak, ck, rfl, HOA.out, hbw⟩
theorem info_val : (Tryz.prog.info? 97).map (fun i => (i.zero, i.size, i.bytes)) = some (some (.agg #[.int .i64 0, .int .i64 0, .float .f64 0, .slice none 0 0, .bool false]), 5, 56) := by kernel_rfl
theorem wpList_appendVal {w : World} {ops : Array Oper} {rest : List Oper} {o : Oper} {a : Act} {Q : Exit → Act → World → Prop} (hgd : o.guard = none) (s x : Operand)
 (ho : o.op = .call { callee := .builtin .append, args := #[s, x], argTypes := #[95, 95] })
 (base : Nat) (ao : Option Addr) (n cap : Nat) (vs : List Value) (hs : a.eval s = .slice ao n cap) (hown : w.ownsRow base 97 5 (.slice ao n cap) n vs)
 (ax : Option Addr) (m c : Nat) (xs : List Value) (hx : a.eval x = .slice ax m c) (hrow : RowN w ax 5 m xs) (hnil : ax = none → c = 0) (h1 : ∀ u ∈ xs, u.oneCell' = true) (hbig : n + m ≤ 1000000000000) (hbase : base ≤ w.heap.size) (N : Nat) (hN : n + m = N)
 (h : ∀ ao' cap' w', w'.ownsRow base 97 5 (.slice ao' N cap') N (vs ++ xs) → w.grownBy w' (Value.ownBlock (.slice ao n cap)) →
  (Value.ownBlock (.slice ao' N cap') = Value.ownBlock (.slice ao n cap) ∨ Value.ownBlock (.slice ao' N cap') = some w.heap.size) → wpList Tryz.prog ops Q rest (a.put o.dst (.slice ao' N cap')) w') : wpList Tryz.prog ops Q (o :: rest) a w := by
 obtain ⟨i0, hi, hz0, hz1, hz2⟩ := info_parts info_val
 exact wpList_append_row hgd s x _ ho base 97 i0 _ 5 56 Tryz.underlying95 hi hz0 hz1 hz2 rfl (by decide) ao n cap vs hs hown ax m c xs hx hrow.1 hrow.news hnil h1 (by simp only [maxLen]; omega) (by omega) hbase N hN h
theorem cells_one5 (v : Vl) : ∀ u ∈ v.cells, u.oneCell' = true := by
 intro u hu
 simp only [Vl.cells, List.mem_cons, List.not_mem_nil, or_false] at hu
 rcases hu with rfl | rfl | rfl | rfl | rfl <;> rfl
end Go.Proofs.YtpknmfmpiachkaaGreat
