/- Walk: flumelaw6.begun. -/
import Derived.Test.YtdfabjkffjacoaaPlain
import Derived.Test.YtdfabjkffjacoaaEq
namespace Go.Proofs.Ytdfabjkffjacoaa
open Go.RowKit

theorem write_n (seed : Nat) (hsd : seed < 4294967296) (lsn : Int) (g1 : -9223372036854775808 ≤ lsn) (g2 : lsn ≤ 9223372036854775807) (l : List UInt8) (n : Nat) (hn : l.length = n) (hlen : n ≤ 9223372036854775807) (A : Option Addr) (cp : Nat) (w : World) (hr : Rd w A (bv l)) :
    Calls Try.prog 15 #[.int .u32 seed, .int .i64 lsn, .slice A n cp] w (Wrote w (fwrite seed lsn l)) := by
  subst hn; exact write_any seed hsd lsn g1 g2 l hlen A cp w hr
theorem rwrite_n (seed : Nat) (hsd : seed < 4294967296) (lsn : Int) (g1 : -9223372036854775808 ≤ lsn) (g2 : lsn ≤ 9223372036854775807) (l : List UInt8) (n : Nat) (hn : l.length = n) (hlen : n ≤ 9223372036854775807) (A : Option Addr) (cp : Nat) (w : World) (hr : Rd w A (bv l)) :
    Calls Try.prog 16 #[.int .u32 seed, .int .i64 lsn, .slice A n cp] w (Wrote w (fwrite seed lsn l)) := by
  subst hn; exact rwrite_any seed hsd lsn g1 g2 l hlen A cp w hr
theorem write_at (s : Int) (seed : Nat) (hs : s = seed) (hsd : seed < 4294967296) (lsn : Int) (g1 : -9223372036854775808 ≤ lsn) (g2 : lsn ≤ 9223372036854775807) (l : List UInt8) (n : Nat) (hn : l.length = n) (hlen : n ≤ 9223372036854775807) (A : Option Addr) (cp : Nat) (w : World) (hr : Rd w A (bv l)) :
    Calls Try.prog 15 #[.int .u32 s, .int .i64 lsn, .slice A n cp] w (Wrote w (fwrite seed lsn l)) := by
  subst hs; exact write_n seed hsd lsn g1 g2 l n hn hlen A cp w hr

theorem whead_at (s : Int) (seed : Nat) (hs : s = seed) (nm base : Int) (g1 : -9223372036854775808 ≤ nm) (g2 : nm < 9223372036854775808) (g3 : -9223372036854775808 ≤ base) (g4 : base < 9223372036854775808) (hsd : seed < 4294967296) (w : World) :
    Calls Try.prog 24 #[.agg #[.int .i64 nm, .int .i64 base, .int .u32 s]] w (Wrote w (whead nm base seed)) := by
  subst hs; exact whead_any nm base seed g1 g2 g3 g4 hsd w
theorem fread_zeros : fread 0 (List.replicate 16 0) = (0, [], 0, 0, 4) := by decide +kernel
theorem fwrite_begun : fwrite 0 1 [] = (frameB 0 1 [], fsum 0 1 [], 0) := by
  rw [fwrite, if_neg (by omega), if_neg (by simp)]; rfl
theorem whead_begun : whead 1 5 0 = (bareB 1 5 0 ++ le 4 (mask (csum (bareB 1 5 0))), csum (bareB 1 5 0), 0) := by
  rw [whead, if_neg (by omega)]; rfl
theorem rhead_begun : rhead (bareB 1 5 0 ++ le 4 (mask (csum (bareB 1 5 0)))) = ((1, 5, 0), csum (bareB 1 5 0), 0) := by
  have := rhead_whead 1 5 0 [] (by omega) (by omega) (by omega) (by omega) (by omega)
  rwa [List.append_nil] at this

set_option maxRecDepth 100000 in
set_option maxHeartbeats 1000000 in
theorem begun_any (w : World) : Calls Try.prog 11 #[] w (EqRP w true) := by
  go_enter Try.func11, Try.ntmps11
  go_wp2_with fail
  refine (write_at 0 0 rfl (by omega) 1 (by omega) (by omega) [] 0 rfl (by omega) none 0 w (Rd.nil _ _)).mono ?_
  rw [fwrite_begun]
  rintro e w1 ⟨A1, n1, c1, rfl, ho1, hb1⟩
  have hn1 : n1 = 16 := by have := ho1.len; rw [frameB_length] at this; simpa using this.symm
  subst hn1
  have hmk : ∀ W : World, (Instr.makeSlice 31 (.int .i64 16) (.int .i64 16)).run Try.prog W = .ok (.slice (some ⟨W.heap.size, 0, none⟩) 16 16) (W.alloc (.cells (madeCells #[.int .u8 0] 16) 5)) := fun W => run_make_b 16 (by omega) W
  have hO := Own.made 16 (by omega) w1
  have hb2 : Below w1.heap.size w1 (w1.alloc (.cells (madeCells #[.int .u8 0] 16) 5)) := (Below.refl _ _).alloc (Nat.le_refl _) _
  have hs1 := fsum_lt 0 1 []
  generalize fsum 0 1 [] = S at *
  generalize madeCells #[.int .u8 0] 16 = Z at *
  go_wp2_with fail
  clear hmk
  generalize (w1.alloc (.cells Z 5)) = w2 at *
  refine (fread_any 0 (by omega) (List.replicate 16 0) 16 rfl (by omega) _ 16 (by omega) w2 hO.rd).mono ?_
  rw [fread_zeros]
  rintro e w3 ⟨A3, n3, c3, rfl, ho3, hb3⟩
  have hn3 : n3 = 0 := by have := ho3.len; simpa using this.symm
  subst hn3
  have hb03 := thn (thn hb1 hb2) hb3
  go_wp2_with fail
  have hb4 : Below w3.heap.size w3 (w3.alloc (Obj.cells #[.int .i64 0, .slice A3 0 c3] 34)) := (Below.refl _ _).alloc (Nat.le_refl _) _
  generalize (w3.alloc (Obj.cells #[.int .i64 0, .slice A3 0 c3] 34)) = w4 at *
  refine (whead_at 0 0 rfl 1 5 (by omega) (by omega) (by omega) (by omega) (by omega) w4).mono ?_
  rw [whead_begun]
  rintro e w5 ⟨A5, n5, c5, rfl, ho5, hb5⟩
  have hn5 : n5 = 32 := by have := ho5.len; simp [bareB_length, le_length] at this; exact this.symm
  subst hn5
  have hrh := rhead_begun
  have hcs := csum_lt (bareB 1 5 0)
  generalize csum (bareB 1 5 0) = C at *
  generalize bareB 1 5 0 ++ le 4 (mask C) = bb at *
  have hb05 := thn (thn hb03 hb4) hb5
  have Hrh := Lib.hid hrh
  clear hrh
  go_wp2_with fail
  refine (rhead_any bb 32 ho5.len (by omega) A5 c5 ho5.cap_le w5 ho5.rd).mono ?_
  rw [Hrh.out]
  rintro e w6 ⟨rfl, hb6⟩
  go_wp2_with (go_at_call 12; refine (size_any 4096 _ (by omega) (by omega)).mono ?_; rintro e w' ⟨rfl, rfl⟩)
  have hf : (fsize 4096 == 4112) = true := by decide
  rw [hf]
  go_ret
  exact ⟨rfl, (thn hb05 hb6).alloc (thn hb05 hb6).size _⟩
end Go.Proofs.Ytdfabjkffjacoaa
