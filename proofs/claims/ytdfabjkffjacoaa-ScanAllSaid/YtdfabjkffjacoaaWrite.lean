/- Walks: frame.Write and the reference's; frame.Size. -/
import Derived.Test.YtdfabjkffjacoaaWire
namespace Go.Proofs.Ytdfabjkffjacoaa
open Go.RowKit

def frameB (seed lsn : Nat) (l : List UInt8) : List UInt8 := le 4 l.length ++ le 8 lsn ++ le 4 (mask (fsum seed lsn l)) ++ l
def fwrite (seed : Nat) (lsn : Int) (l : List UInt8) : List UInt8 × Nat × Nat :=
  if lsn < 1 ∨ 9223372036854775806 < lsn then ([], 0, 1) else if 4096 < l.length then ([], 0, 3) else (frameB seed lsn.toNat l, fsum seed lsn.toNat l, 0)
theorem frameB_length (seed lsn : Nat) (l : List UInt8) : (frameB seed lsn l).length = 16 + l.length := by simp [frameB, le_length]; omega
theorem fsum_lt (seed lsn : Nat) (l : List UInt8) : fsum seed lsn l < 4294967296 := csum_lt _

/-- what a call that writes bytes, a sum and an error answers -/
def Wrote (w : World) (r : List UInt8 × Nat × Nat) (e : Ending) (w' : World) : Prop :=
  ∃ A n cp, e = .returned (.tuple #[.slice A n cp, .int .u32 (r.2.1 : Int), .int .i64 (r.2.2 : Int)]) ∧ Own w.heap.size w' A n cp r.1 ∧ Below w.heap.size w w'

theorem wrote_none (w : World) (k : Nat) : Wrote w ([], 0, k) (.returned (.tuple #[.slice none 0 0, .int .u32 0, .int .i64 (k : Int)])) w := ⟨none, 0, 0, rfl, Own.nil _ _, Below.refl _ _⟩

set_option maxHeartbeats 400000 in
theorem write_ok (seed : Nat) (hsd : seed < 4294967296) (lsn : Nat) (h1 : 1 ≤ lsn) (h2 : lsn ≤ 9223372036854775806) (l : List UInt8) (hlen : l.length ≤ 4096) (A : Option Addr) (cp : Nat) (w : World) (hr : Rd w A (bv l)) :
    Calls Try.prog 15 #[.int .u32 seed, .int .i64 lsn, .slice A l.length cp] w
      (Wrote w (frameB seed lsn l, fsum seed lsn l, 0)) := by
  go_enter Try.func15, Try.ntmps15
  go_wp2_with fail
  refine (sums_any seed hsd lsn (by omega) l hlen A cp _ hr).mono ?_
  rintro e w0 ⟨rfl, hb0⟩
  have hs := fsum_lt seed lsn l
  generalize hsum : fsum seed lsn l = sm at *
  have Hs := Lib.hid hsum; clear hsum
  have hr0 := hr.keep hb0
  go_wp2_with fail
  refine (fixed32_any l.length (by omega) _).mono ?_
  rintro e w1 ⟨A1, c1, rfl, ho1, hb1⟩
  go_wp2_with fail
  refine (fixed64_any lsn (by omega) _).mono ?_
  rintro e w2 ⟨A2, c2, rfl, ho2, hb2⟩
  have hs2 := Nat.le_trans hb1.size hb2.size
  go_wp2_with (at_builtin; refine wpList_append_s rfl (.tmp 29) (.tmp 32) rfl rfl rfl (ho1.keep hb2) ho2.rd ho2.len (by omega) hs2 ?_; intro A3 c3 w3 ho3 hb3)
  refine (mask_any sm hs _).mono ?_
  rintro e w3' ⟨rfl, rfl⟩
  have hm := mask_lt sm
  go_wp2_with fail
  refine (fixed32_any (mask sm) hm _).mono ?_
  rintro e w4 ⟨A4, c4, rfl, ho4, hb4⟩
  have hb04 := thn ((thn hb1 hb2).trans hb3) hb4
  have hr4 := hr0.keep hb04
  go_wp2_with (first
    | (at_builtin; refine wpList_append_s rfl (.tmp 34) (.tmp 37) rfl rfl rfl (ho3.keep hb4) ho4.rd ho4.len (by omega) hb04.size ?_; intro A5 c5 w5 ho5 hb5)
    | (at_builtin; refine wpList_append_s rfl (.tmp 39) (.tmp 40) rfl rfl rfl ho5 (hr0.keep (hb04.trans hb5)) rfl (by omega) (hb04.trans hb5).size ?_; intro A6 c6 w6 ho6 hb6))
  go_ret3
  refine ⟨A6, _, c6, rfl, ?_, (thn hb0 (hb04.trans hb5)).trans (hb6.mono hb0.size)⟩
  rw [frameB, Hs.out]
  exact ho6.mono hb0.size

set_option maxHeartbeats 400000 in
theorem write_any (seed : Nat) (hsd : seed < 4294967296) (lsn : Int) (g1 : -9223372036854775808 ≤ lsn) (g2 : lsn ≤ 9223372036854775807) (l : List UInt8) (hlen : l.length ≤ 9223372036854775807) (A : Option Addr) (cp : Nat) (w : World) (hr : Rd w A (bv l)) :
    Calls Try.prog 15 #[.int .u32 seed, .int .i64 lsn, .slice A l.length cp] w (Wrote w (fwrite seed lsn l)) := by
  by_cases h1 : lsn < 1
  · have e : fwrite seed lsn l = ([], 0, 1) := by rw [fwrite, if_pos (.inl h1)]
    rw [e]
    go_enter Try.func15, Try.ntmps15
    go_wp2
    go_ret3
    exact wrote_none w 1
  · by_cases h2 : 9223372036854775806 < lsn
    · have e : fwrite seed lsn l = ([], 0, 1) := by rw [fwrite, if_pos (.inr h2)]
      rw [e]
      go_enter Try.func15, Try.ntmps15
      go_wp2
      go_ret3
      exact wrote_none w 1
    · by_cases h3 : 4096 < l.length
      · have e : fwrite seed lsn l = ([], 0, 3) := by rw [fwrite, if_neg (by omega), if_pos h3]
        rw [e]
        go_enter Try.func15, Try.ntmps15
        go_wp2
        go_ret3
        exact wrote_none w 3
      · have e : fwrite seed lsn l = (frameB seed lsn.toNat l, fsum seed lsn.toNat l, 0) := by rw [fwrite, if_neg (by omega), if_neg h3]
        rw [e]
        obtain ⟨k, rfl⟩ := Int.eq_ofNat_of_zero_le (a := lsn) (by omega)
        exact write_ok seed hsd k (by omega) (by omega) l (by omega) A cp w hr

set_option maxHeartbeats 400000 in
theorem rwrite_ok (seed : Nat) (hsd : seed < 4294967296) (lsn : Nat) (h1 : 1 ≤ lsn) (h2 : lsn ≤ 9223372036854775806) (l : List UInt8) (hlen : l.length ≤ 4096) (A : Option Addr) (cp : Nat) (w : World) (hr : Rd w A (bv l)) :
    Calls Try.prog 16 #[.int .u32 seed, .int .i64 lsn, .slice A l.length cp] w
      (Wrote w (frameB seed lsn l, fsum seed lsn l, 0)) := by
  go_enter Try.func16, Try.ntmps16
  go_wp2_with fail
  refine (rsums_any seed hsd lsn (by omega) l hlen A cp _ hr).mono ?_
  rintro e w0 ⟨rfl, hb0⟩
  have hs := fsum_lt seed lsn l
  generalize hsum : fsum seed lsn l = sm at *
  have Hs := Lib.hid hsum; clear hsum
  have hr0 := hr.keep hb0
  go_wp2_with fail
  refine (rfixed_any l.length (by omega) 4 (by omega) _).mono ?_
  rintro e w1 ⟨A1, c1, rfl, ho1, hb1⟩
  go_wp2_with fail
  refine (rfixed_any lsn (by omega) 8 (by omega) _).mono ?_
  rintro e w2 ⟨A2, c2, rfl, ho2, hb2⟩
  have hs2 := Nat.le_trans hb1.size hb2.size
  go_wp2_with (at_builtin; refine wpList_append_s rfl (.tmp 29) (.tmp 32) rfl rfl rfl (ho1.keep hb2) ho2.rd ho2.len (by omega) hs2 ?_; intro A3 c3 w3 ho3 hb3)
  refine (rmask_any sm hs _).mono ?_
  rintro e w3' ⟨rfl, rfl⟩
  have hm := mask_lt sm
  go_wp2_with fail
  refine (rfixed_any (mask sm) (by omega) 4 (by omega) _).mono ?_
  rintro e w4 ⟨A4, c4, rfl, ho4, hb4⟩
  have hb04 := thn ((thn hb1 hb2).trans hb3) hb4
  have hr4 := hr0.keep hb04
  go_wp2_with (first
    | (at_builtin; refine wpList_append_s rfl (.tmp 34) (.tmp 38) rfl rfl rfl (ho3.keep hb4) ho4.rd ho4.len (by omega) hb04.size ?_; intro A5 c5 w5 ho5 hb5)
    | (at_builtin; refine wpList_append_s rfl (.tmp 40) (.tmp 41) rfl rfl rfl ho5 (hr0.keep (hb04.trans hb5)) rfl (by omega) (hb04.trans hb5).size ?_; intro A6 c6 w6 ho6 hb6))
  go_ret3
  refine ⟨A6, _, c6, rfl, ?_, (thn hb0 (hb04.trans hb5)).trans (hb6.mono hb0.size)⟩
  rw [frameB, Hs.out]
  exact ho6.mono hb0.size

set_option maxHeartbeats 400000 in
theorem rwrite_any (seed : Nat) (hsd : seed < 4294967296) (lsn : Int) (g1 : -9223372036854775808 ≤ lsn) (g2 : lsn ≤ 9223372036854775807) (l : List UInt8) (hlen : l.length ≤ 9223372036854775807) (A : Option Addr) (cp : Nat) (w : World) (hr : Rd w A (bv l)) :
    Calls Try.prog 16 #[.int .u32 seed, .int .i64 lsn, .slice A l.length cp] w (Wrote w (fwrite seed lsn l)) := by
  by_cases h1 : lsn < 1
  · have e : fwrite seed lsn l = ([], 0, 1) := by rw [fwrite, if_pos (.inl h1)]
    rw [e]
    go_enter Try.func16, Try.ntmps16
    go_wp2
    go_ret3
    exact wrote_none w 1
  · by_cases h2 : 9223372036854775806 < lsn
    · have e : fwrite seed lsn l = ([], 0, 1) := by rw [fwrite, if_pos (.inr h2)]
      rw [e]
      go_enter Try.func16, Try.ntmps16
      go_wp2
      go_ret3
      exact wrote_none w 1
    · by_cases h3 : 4096 < l.length
      · have e : fwrite seed lsn l = ([], 0, 3) := by rw [fwrite, if_neg (by omega), if_pos h3]
        rw [e]
        go_enter Try.func16, Try.ntmps16
        go_wp2
        go_ret3
        exact wrote_none w 3
      · have e : fwrite seed lsn l = (frameB seed lsn.toNat l, fsum seed lsn.toNat l, 0) := by rw [fwrite, if_neg (by omega), if_neg h3]
        rw [e]
        obtain ⟨k, rfl⟩ := Int.eq_ofNat_of_zero_le (a := lsn) (by omega)
        exact rwrite_ok seed hsd k (by omega) (by omega) l (by omega) A cp w hr

def fsize (n : Int) : Int := if 0 ≤ n ∧ n ≤ 4096 then 16 + n else 0
set_option maxHeartbeats 400000 in
theorem size_any (n : Int) (w : World) (h0 : -9223372036854775808 ≤ n) (h1 : n ≤ 9223372036854775807) :
    Calls Try.prog 12 #[.int .i64 n] w fun e w' => e = .returned (.int .i64 (fsize n)) ∧ w = w' := by
  by_cases ha : n < 0
  · have e : fsize n = 0 := by rw [fsize, if_neg (by omega)]
    rw [e]
    go_enter Try.func12, Try.ntmps12
    go_wp2
    go_ret
    exact ⟨rfl, rfl⟩
  · by_cases hb : 4096 < n
    · have e : fsize n = 0 := by rw [fsize, if_neg (by omega)]
      rw [e]
      go_enter Try.func12, Try.ntmps12
      go_wp2
      go_ret
      exact ⟨rfl, rfl⟩
    · have e : fsize n = 16 + n := by rw [fsize, if_pos (by omega)]
      rw [e]
      go_enter Try.func12, Try.ntmps12
      go_wp2
      go_ret
      exact ⟨rfl, rfl⟩
set_option maxHeartbeats 400000 in
theorem rsize_any (n : Int) (w : World) (h0 : -9223372036854775808 ≤ n) (h1 : n ≤ 9223372036854775807) :
    Calls Try.prog 13 #[.int .i64 n] w fun e w' => e = .returned (.int .i64 (fsize n)) ∧ w = w' := by
  by_cases ha : n < 0
  · have e : fsize n = 0 := by rw [fsize, if_neg (by omega)]
    rw [e]
    go_enter Try.func13, Try.ntmps13
    go_wp2
    go_ret
    exact ⟨rfl, rfl⟩
  · by_cases hb : 4096 < n
    · have e : fsize n = 0 := by rw [fsize, if_neg (by omega)]
      rw [e]
      go_enter Try.func13, Try.ntmps13
      go_wp2
      go_ret
      exact ⟨rfl, rfl⟩
    · have e : fsize n = 16 + n := by rw [fsize, if_pos (by omega)]
      rw [e]
      go_enter Try.func13, Try.ntmps13
      go_wp2
      go_ret
      exact ⟨rfl, rfl⟩
end Go.Proofs.Ytdfabjkffjacoaa
