/- Walks: little-endian numbers of the program and of the reference. -/
import Derived.Test.YtdfabjkffjacoaaTab
import Derived.Test.YtdfabjkffjacoaaOwn
namespace Go.Proofs.Ytdfabjkffjacoaa
open Go.RowKit

theorem u64_byte (n k : Nat) (l : List UInt8) : bv l ++ [Value.int .u8 ((n / 256 ^ k % 256 : Nat) : Int)] = bv (l ++ [UInt8.ofNat (n / 256 ^ k % 256)]) := by
  simp [bv, bval]

set_option maxHeartbeats 400000 in
theorem rfixed_any (n : Nat) (hn : n < 18446744073709551616) (s : Nat) (hs : s ≤ 8) (w : World) :
    Calls Try.prog 40 #[.int .u64 n, .int .i64 s] w fun e w' => ∃ A cp, e = .returned (.slice A s cp) ∧ Own w.heap.size w' A s cp (le s n) ∧ Below w.heap.size w w' := by
  go_enter Try.func40, Try.ntmps40
  go_wp2
  go_loopw [0, 5, 6] (fun x v i wr => ∃ (k : Nat) (A : Option Addr) (cp : Nat), k ≤ s ∧ i = .int .i64 k ∧ x = .int .u64 (n / 256 ^ k : Nat) ∧ v = .slice A k cp ∧ Own w.heap.size wr A k cp (le k n) ∧ Below w.heap.size w wr) (fun _ _ i _ => s - (intOf i).toNat)
  case atStart => exact ⟨0, none, 0, by omega, rfl, by simp, rfl, Own.nil _ _, Below.refl _ _⟩
  case round =>
    obtain ⟨k, A, cp, hk, rfl, rfl, rfl, ho, hb⟩ := hrel
    have hx : n / 256 ^ k < 18446744073709551616 := Nat.lt_of_le_of_lt (Nat.div_le_self _ _) hn
    generalize he : n / 256 ^ k = x at *
    have He := Lib.hid he; clear he
    by_cases hlt : k < s
    · have hs1 := size_alloc_le hb.size (.cells #[.int .u8 ((x : Int) % 256)] 5)
      have hA1 := fun ad h => (ho.lt ad h).1
      go_wp2_with (at_builtin; refine wpList_append_b rfl (.tmp 12) (.tmp 16) rfl (l' := [UInt8.ofNat (x % 256)]) rfl rfl (ho.alloc _) (rd_new1 _ _ _) rfl (by omega) hs1 ?_; intro A2 c2 w2 ho2 hg2 hf2)
      refine ⟨⟨k + 1, A2, c2, by omega, by go_num, ?_, rfl, ?_, ?_⟩, by simp [intOf]; omega⟩
      · rw [Nat.pow_succ, ← Nat.div_div_eq_div_mul, He.out]; rfl
      · rw [le_succ, He.out]; exact ho2
      · exact (hb.alloc hb.size _).trans (below_grown hg2 hs1 hA1)
    · go_wp2
      go_ret
      have e8 : k = s := by omega
      subst e8
      exact ⟨_, _, rfl, ho, hb⟩

theorem fx_step (n s k : Nat) (h : k < s) : (le k n ++ List.replicate (s - k) (0 : UInt8)).set k (UInt8.ofNat (n / 256 ^ k % 256)) = le (k + 1) n ++ List.replicate (s - (k + 1)) 0 := by
  rw [le_succ, List.set_append_right _ _ (by rw [le_length]; omega), le_length, Nat.sub_self]
  rw [show s - k = (s - (k + 1)) + 1 from by omega, List.replicate_succ, List.set_cons_zero, List.append_assoc]
  rfl

set_option maxHeartbeats 400000 in
theorem fixed_any (n : Nat) (_hn : n < 18446744073709551616) (s : Nat) (hs : s ≤ 8) (w : World) :
    Calls Try.prog 53 #[.int .u64 n, .int .i64 s] w fun e w' => ∃ A cp, e = .returned (.slice A s cp) ∧ Own w.heap.size w' A s cp (le s n) ∧ Below w.heap.size w w' := by
  have hmk := run_make_b s (by omega)
  have hB0 : Below w.heap.size w (w.alloc (.cells (madeCells #[.int .u8 0] s) 5)) := (Below.refl _ _).alloc (Nat.le_refl _) _
  have hO0 := Own.made s (by omega) w
  go_enter Try.func53, Try.ntmps53
  go_wp2
  clear hmk
  go_loopw [6, 11] (fun _ i wr => ∃ (k : Nat), k ≤ s ∧ i = .int .i64 k ∧ Own w.heap.size wr (some ⟨w.heap.size, 0, none⟩) s s (le k n ++ List.replicate (s - k) 0) ∧ Below w.heap.size w wr) (fun _ i _ => s - (intOf i).toNat)
  case atStart => exact ⟨0, by omega, rfl, hO0, hB0⟩
  case round =>
    obtain ⟨k, hk, rfl, ho, hb⟩ := hrel
    by_cases hlt : k < s
    · obtain ⟨u, hc⟩ := ho.cell hlt
      have hf := ho.frozen k
      have hn' := ho.set k (UInt8.ofNat (n / 256 ^ k % 256))
      rw [fx_step n s k hlt] at hn'
      have Hn := Lib.hid hn'
      rw [addr0] at hc hf
      clear hn' hO0 hB0 ho
      go_wp2
      refine ⟨⟨k + 1, by omega, by go_num, ?_, hb.setCell (Nat.le_refl _) _⟩, by simp [intOf]; omega⟩
      have h := Hn.out
      rw [addr0] at h
      rw [byte_of_shift]
      exact h
    · go_wp2
      go_ret
      have e8 : k = s := by omega
      subst e8
      rw [Nat.sub_self, List.replicate_zero, List.append_nil] at ho
      exact ⟨_, _, rfl, ho, hb⟩

set_option maxHeartbeats 400000 in
theorem fixed32_any (n : Nat) (hn : n < 4294967296) (w : World) :
    Calls Try.prog 36 #[.int .u32 n] w fun e w' => ∃ A cp, e = .returned (.slice A 4 cp) ∧ Own w.heap.size w' A 4 cp (le 4 n) ∧ Below w.heap.size w w' := by
  go_enter Try.func36, Try.ntmps36
  go_wp2_with fail
  refine (fixed_any n (by omega) 4 (by omega) _).mono ?_
  rintro e w1 ⟨A, cp, rfl, ho, hb⟩
  go_wp2
  go_ret
  exact ⟨_, _, rfl, ho, hb⟩
set_option maxHeartbeats 400000 in
theorem fixed64_any (n : Nat) (hn : n < 18446744073709551616) (w : World) :
    Calls Try.prog 37 #[.int .u64 n] w fun e w' => ∃ A cp, e = .returned (.slice A 8 cp) ∧ Own w.heap.size w' A 8 cp (le 8 n) ∧ Below w.heap.size w w' := by
  go_enter Try.func37, Try.ntmps37
  go_wp2_with fail
  refine (fixed_any n (by omega) 8 (by omega) _).mono ?_
  rintro e w1 ⟨A, cp, rfl, ho, hb⟩
  go_wp2
  go_ret
  exact ⟨_, _, rfl, ho, hb⟩

def fsum (seed lsn : Nat) (data : List UInt8) : Nat := csum (le 4 seed ++ le 4 data.length ++ le 8 lsn ++ data)

set_option maxHeartbeats 400000 in
theorem sums_any (seed : Nat) (hsd : seed < 4294967296) (lsn : Nat) (hl : lsn < 9223372036854775808) (l : List UInt8) (hlen : l.length ≤ 4096) (A : Option Addr) (cp : Nat) (w : World) (hr : Rd w A (bv l)) :
    Calls Try.prog 35 #[.int .u32 seed, .int .i64 lsn, .slice A l.length cp] w fun e w' => e = .returned (.int .u32 (fsum seed lsn l : Nat)) ∧ Below w.heap.size w w' := by
  go_enter Try.func35, Try.ntmps35
  go_wp2_with fail
  refine (fixed32_any seed hsd _).mono ?_
  rintro e w1 ⟨A1, c1, rfl, ho1, hb1⟩
  go_wp2_with fail
  refine (fixed32_any l.length (by omega) _).mono ?_
  rintro e w2 ⟨A2, c2, rfl, ho2, hb2⟩
  have hs2 := Nat.le_trans hb1.size hb2.size
  go_wp2_with (at_builtin; refine wpList_append_s rfl (.tmp 9) (.tmp 13) rfl rfl rfl (ho1.keep hb2) ho2.rd ho2.len (by omega) hs2 ?_; intro A3 c3 w3 ho3 hb3)
  refine (fixed64_any lsn (by omega) _).mono ?_
  rintro e w4 ⟨A4, c4, rfl, ho4, hb4⟩
  have hb04 := thn ((thn hb1 hb2).trans hb3) hb4
  have hr4 := hr.keep hb04
  go_wp2_with (first
    | (at_builtin; refine wpList_append_s rfl (.tmp 15) (.tmp 18) rfl rfl rfl (ho3.keep hb4) ho4.rd ho4.len (by omega) hb04.size ?_; intro A5 c5 w5 ho5 hb5)
    | (at_builtin; refine wpList_append_s rfl (.tmp 20) (.tmp 21) rfl rfl rfl ho5 (hr.keep (hb04.trans hb5)) rfl (by omega) (hb04.trans hb5).size ?_; intro A6 c6 w6 ho6 hb6))
  have hb06 := (hb04.trans hb5).trans hb6
  refine (csum_n (le 4 seed ++ le 4 l.length ++ le 8 lsn ++ l) _ ho6.len A6 _ _ ho6.rd (by omega)).mono ?_
  rintro e w7 ⟨rfl, hb7⟩
  go_wp2
  go_ret
  exact ⟨rfl, thn hb06 hb7⟩

set_option maxHeartbeats 400000 in
theorem rsums_any (seed : Nat) (hsd : seed < 4294967296) (lsn : Nat) (hl : lsn < 9223372036854775808) (l : List UInt8) (hlen : l.length ≤ 4096) (A : Option Addr) (cp : Nat) (w : World) (hr : Rd w A (bv l)) :
    Calls Try.prog 39 #[.int .u32 seed, .int .u64 lsn, .slice A l.length cp] w fun e w' => e = .returned (.int .u32 (fsum seed lsn l : Nat)) ∧ Below w.heap.size w w' := by
  go_enter Try.func39, Try.ntmps39
  go_wp2_with fail
  refine (rfixed_any seed (by omega) 4 (by omega) _).mono ?_
  rintro e w1 ⟨A1, c1, rfl, ho1, hb1⟩
  go_wp2_with fail
  refine (rfixed_any l.length (by omega) 4 (by omega) _).mono ?_
  rintro e w2 ⟨A2, c2, rfl, ho2, hb2⟩
  have hs2 := Nat.le_trans hb1.size hb2.size
  go_wp2_with (at_builtin; refine wpList_append_s rfl (.tmp 11) (.tmp 15) rfl rfl rfl (ho1.keep hb2) ho2.rd ho2.len (by omega) hs2 ?_; intro A3 c3 w3 ho3 hb3)
  refine (rfixed_any lsn (by omega) 8 (by omega) _).mono ?_
  rintro e w4 ⟨A4, c4, rfl, ho4, hb4⟩
  have hb04 := thn ((thn hb1 hb2).trans hb3) hb4
  have hr4 := hr.keep hb04
  go_wp2_with (first
    | (at_builtin; refine wpList_append_s rfl (.tmp 17) (.tmp 19) rfl rfl rfl (ho3.keep hb4) ho4.rd ho4.len (by omega) hb04.size ?_; intro A5 c5 w5 ho5 hb5)
    | (at_builtin; refine wpList_append_s rfl (.tmp 21) (.tmp 22) rfl rfl rfl ho5 (hr.keep (hb04.trans hb5)) rfl (by omega) (hb04.trans hb5).size ?_; intro A6 c6 w6 ho6 hb6))
  have hb06 := (hb04.trans hb5).trans hb6
  refine (rsum_n (le 4 seed ++ le 4 l.length ++ le 8 lsn ++ l) _ ho6.len A6 _ _ ho6.rd (by omega)).mono ?_
  rintro e w7 ⟨rfl, rfl⟩
  go_wp2
  go_ret
  exact ⟨rfl, hb06⟩
theorem sums_n (seed : Nat) (hsd : seed < 4294967296) (lsn : Nat) (hl : lsn < 9223372036854775808) (l : List UInt8) (n : Nat) (hn : l.length = n) (hlen : n ≤ 4096) (A : Option Addr) (cp : Nat) (w : World) (hr : Rd w A (bv l)) :
    Calls Try.prog 35 #[.int .u32 seed, .int .i64 lsn, .slice A n cp] w fun e w' => e = .returned (.int .u32 (fsum seed lsn l : Nat)) ∧ Below w.heap.size w w' := by
  subst hn; exact sums_any seed hsd lsn hl l hlen A cp w hr
theorem rsums_n (seed : Nat) (hsd : seed < 4294967296) (lsn : Nat) (hl : lsn < 9223372036854775808) (l : List UInt8) (n : Nat) (hn : l.length = n) (hlen : n ≤ 4096) (A : Option Addr) (cp : Nat) (w : World) (hr : Rd w A (bv l)) :
    Calls Try.prog 39 #[.int .u32 seed, .int .u64 lsn, .slice A n cp] w fun e w' => e = .returned (.int .u32 (fsum seed lsn l : Nat)) ∧ Below w.heap.size w w' := by
  subst hn; exact rsums_any seed hsd lsn hl l hlen A cp w hr
end Go.Proofs.Ytdfabjkffjacoaa
