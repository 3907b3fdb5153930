/- Walks: frame.WriteHead and the reference's. -/
import Derived.Test.YtdfabjkffjacoaaRef
import Derived.Lib.SlBytesConst
namespace Go.Proofs.Ytdfabjkffjacoaa
open Go.RowKit

def magic : List UInt8 := [70, 76, 85, 77, 69, 76, 79, 71]
def bareB (nm base seed : Nat) : List UInt8 := magic ++ le 8 nm ++ le 8 base ++ le 4 seed
def whead (nm base : Int) (seed : Nat) : List UInt8 × Nat × Nat :=
  if nm < 1 ∨ base < 1 then ([], 0, 1) else (bareB nm.toNat base.toNat seed ++ le 4 (mask (csum (bareB nm.toNat base.toNat seed))), csum (bareB nm.toNat base.toNat seed), 0)

theorem conv_const (w : World) (g : Nat) (C : Array Value) (n c : Nat) (hg : g = w.heap.size) : (convert 31 31 (.slice (some ⟨g, 0, none⟩) n c)).run Try.prog (w.alloc (.cells C 5)) = .ok (.slice (some ⟨g, 0, none⟩) n c) (w.alloc (.cells C 5 (C.size, C.size + 1))) := by
  subst hg
  exact Lib.run_convert_bytes_const (P := Try.prog) w 31 5 C n c Try.underlying31 Try.underlying5

set_option maxRecDepth 100000 in
set_option maxHeartbeats 400000 in
theorem whead_ok (nm base seed : Nat) (h1 : 1 ≤ nm) (h2 : nm < 9223372036854775808) (h3 : 1 ≤ base) (h4 : base < 9223372036854775808) (hs : seed < 4294967296) (w : World) :
    Calls Try.prog 24 #[.agg #[.int .i64 nm, .int .i64 base, .int .u32 seed]] w (Wrote w (whead nm base seed)) := by
  have hnm : bareB nm base seed = magic ++ le 8 nm ++ le 8 base ++ le 4 seed := rfl
  have Hnm := Lib.hid hnm
  have hwh : whead nm base seed = (bareB nm base seed ++ le 4 (mask (csum (bareB nm base seed))), csum (bareB nm base seed), 0) := by rw [whead, if_neg (by omega)]; rfl
  have Hwh := Lib.hid hwh
  have hcs := csum_lt (bareB nm base seed)
  clear hnm hwh
  have hb0 : Below w.heap.size w ((w.alloc (Obj.cells #[.int .i64 nm, .int .i64 base, .int .u32 seed] 50)).alloc (Obj.cells #[.int .u8 70, .int .u8 76, .int .u8 85, .int .u8 77, .int .u8 69, .int .u8 76, .int .u8 79, .int .u8 71] 5 (8, 9))) := ((Below.refl _ _).alloc (Nat.le_refl _) _).alloc (by simp) _
  have p0 : ((w.alloc (Obj.cells #[.int .i64 nm, .int .i64 base, .int .u32 seed] 50)).alloc (Obj.cells #[.int .u8 70, .int .u8 76, .int .u8 85, .int .u8 77, .int .u8 69, .int .u8 76, .int .u8 79, .int .u8 71] 5 (8, 9))).heap[w.heap.size]? = some (Obj.cells #[.int .i64 nm, .int .i64 base, .int .u32 seed] 50 (0, 0)) := heap_alloc2_old w _ _
  have p1 : ((w.alloc (Obj.cells #[.int .i64 nm, .int .i64 base, .int .u32 seed] 50)).alloc (Obj.cells #[.int .u8 70, .int .u8 76, .int .u8 85, .int .u8 77, .int .u8 69, .int .u8 76, .int .u8 79, .int .u8 71] 5 (8, 9))).heap[w.heap.size + 1]? = some _ := heap_alloc2_new w _ _
  have hmag := rd_block (l := magic) rfl p1
  have kc := conv_const
  go_enter Try.func24, Try.ntmps24
  go_wp2_with fail
  clear p1 kc
  generalize ((w.alloc (Obj.cells #[.int .i64 nm, .int .i64 base, .int .u32 seed] 50)).alloc (Obj.cells #[.int .u8 70, .int .u8 76, .int .u8 85, .int .u8 77, .int .u8 69, .int .u8 76, .int .u8 79, .int .u8 71] 5 (8, 9))) = W0 at *
  refine (fixed64_any nm (by omega) W0).mono ?_
  rintro e W1 ⟨A1, c1, rfl, ho1, hb1⟩
  have hmag1 := hmag.keep hb1
  have q1 := (hb1.block _ (Array.getElem?_eq_some_iff.1 p0).1).trans p0
  go_wp2_with (at_builtin; refine wpList_append_full rfl (.tmp 16) (.tmp 20) rfl rfl rfl hmag1 rfl ho1.rd ho1.len (by omega) (by omega) (by omega) ?_; intro A2 c2 W2 ho2 hb2; have q2 := (hb2.block _ (Array.getElem?_eq_some_iff.1 q1).1).trans q1; have d1 := cell_of_row _ _ 1 _ _ _ q2)
  have hw1 : w.heap.size < W1.heap.size := (Array.getElem?_eq_some_iff.1 q1).1
  have hb02 := thn (thn hb0 hb1) hb2
  clear hmag hmag1 p0 q1 d1
  refine (fixed64_any base (by omega) W2).mono ?_
  rintro e W3 ⟨A3, c3, rfl, ho3, hb3⟩
  have q3 := (hb3.block _ (Array.getElem?_eq_some_iff.1 q2).1).trans q2
  have hs3 := Nat.le_trans hb2.size hb3.size
  have hb03 := thn hb02 hb3
  go_wp2_with (at_builtin; refine wpList_append_s rfl (.tmp 22) (.tmp 26) rfl rfl rfl (ho2.keep hb3) ho3.rd ho3.len (by omega) hs3 ?_; intro A4 c4 W4 ho4 hb4; have q4 := (hb4.block _ hw1).trans q3; have d2 := cell_of_row _ _ 2 _ _ _ q4)
  refine (fixed32_any seed (by omega) W4).mono ?_
  rintro e W5 ⟨A5, c5, rfl, ho5, hb5⟩
  clear q2 q3 q4 d2
  have hb05 := thn (hb03.trans (hb4.mono (Nat.le_of_lt hw1))) hb5
  have hs5 := Nat.le_trans (Nat.le_trans hs3 hb4.size) hb5.size
  go_wp2_with (at_builtin; refine wpList_append_s rfl (.tmp 28) (.tmp 31) rfl rfl rfl (ho4.keep hb5) ho5.rd ho5.len (by omega) hs5 ?_; intro A6 c6 W6 ho6 hb6)
  rw [← Hnm.out] at ho6
  generalize bareB nm base seed = bb at *
  refine (csum_n bb _ ho6.len A6 _ _ ho6.rd (by omega)).mono ?_
  rintro e W7 ⟨rfl, hb7⟩
  have hb07 := thn (hb05.trans (hb6.mono (Nat.le_of_lt hw1))) hb7
  go_wp2_with fail
  refine (mask_any (csum bb) hcs _).mono ?_
  rintro e W7' ⟨rfl, rfl⟩
  go_wp2_with fail
  refine (fixed32_any (mask (csum bb)) (mask_lt _) _).mono ?_
  rintro e W8 ⟨A8, c8, rfl, ho8, hb8⟩
  have hs8 := Nat.le_trans (Nat.le_trans (Nat.le_trans hs5 hb6.size) hb7.size) hb8.size
  go_wp2_with (at_builtin; refine wpList_append_s rfl (.tmp 35) (.tmp 38) rfl rfl rfl ((ho6.keep hb7).keep hb8) ho8.rd ho8.len (by omega) hs8 ?_; intro A9 c9 W9 ho9 hb9)
  rw [Hwh.out]
  go_ret3
  exact ⟨A9, _, c9, rfl, ho9.mono (Nat.le_of_lt hw1), (thn hb07 hb8).trans (hb9.mono (Nat.le_of_lt hw1))⟩

set_option maxRecDepth 100000 in
set_option maxHeartbeats 400000 in
theorem whead_any (nm base : Int) (seed : Nat) (g1 : -9223372036854775808 ≤ nm) (g2 : nm < 9223372036854775808) (g3 : -9223372036854775808 ≤ base) (g4 : base < 9223372036854775808) (hs : seed < 4294967296) (w : World) :
    Calls Try.prog 24 #[.agg #[.int .i64 nm, .int .i64 base, .int .u32 seed]] w (Wrote w (whead nm base seed)) := by
  have hb0 : Below w.heap.size w (w.alloc (Obj.cells #[.int .i64 nm, .int .i64 base, .int .u32 seed] 50)) := (Below.refl _ _).alloc (Nat.le_refl _) _
  by_cases h1 : nm < 1
  · have e : whead nm base seed = ([], 0, 1) := by rw [whead, if_pos (.inl h1)]
    rw [e]
    go_enter Try.func24, Try.ntmps24
    go_wp2
    go_ret3
    exact ⟨none, 0, 0, rfl, Own.nil _ _, hb0⟩
  · by_cases h2 : base < 1
    · have e : whead nm base seed = ([], 0, 1) := by rw [whead, if_pos (.inr h2)]
      rw [e]
      go_enter Try.func24, Try.ntmps24
      go_wp2
      go_ret3
      exact ⟨none, 0, 0, rfl, Own.nil _ _, hb0⟩
    · obtain ⟨a, rfl⟩ := Int.eq_ofNat_of_zero_le (a := nm) (by omega)
      obtain ⟨b, rfl⟩ := Int.eq_ofNat_of_zero_le (a := base) (by omega)
      exact whead_ok a b seed (by omega) (by omega) (by omega) (by omega) hs w

def BytesP (w : World) (l : List UInt8) (e : Ending) (w' : World) : Prop := ∃ A n cp, e = .returned (.slice A n cp) ∧ Own w.heap.size w' A n cp l ∧ Below w.heap.size w w'

set_option maxRecDepth 100000 in
set_option maxHeartbeats 400000 in
theorem bare_ok (nm base seed : Nat) (h2 : nm < 9223372036854775808) (h4 : base < 9223372036854775808) (hs : seed < 4294967296) (w : World) :
    Calls Try.prog 48 #[.agg #[.int .i64 nm, .int .i64 base, .int .u32 seed]] w (BytesP w (bareB nm base seed)) := by
  have hnm : bareB nm base seed = magic ++ le 8 nm ++ le 8 base ++ le 4 seed := rfl
  have Hnm := Lib.hid hnm
  clear hnm
  have hb0 : Below w.heap.size w ((w.alloc (Obj.cells #[.int .i64 nm, .int .i64 base, .int .u32 seed] 50)).alloc (Obj.cells #[.int .u8 70, .int .u8 76, .int .u8 85, .int .u8 77, .int .u8 69, .int .u8 76, .int .u8 79, .int .u8 71] 5 (8, 9))) := ((Below.refl _ _).alloc (Nat.le_refl _) _).alloc (by simp) _
  have p0 : ((w.alloc (Obj.cells #[.int .i64 nm, .int .i64 base, .int .u32 seed] 50)).alloc (Obj.cells #[.int .u8 70, .int .u8 76, .int .u8 85, .int .u8 77, .int .u8 69, .int .u8 76, .int .u8 79, .int .u8 71] 5 (8, 9))).heap[w.heap.size]? = some (Obj.cells #[.int .i64 nm, .int .i64 base, .int .u32 seed] 50 (0, 0)) := heap_alloc2_old w _ _
  have p1 : ((w.alloc (Obj.cells #[.int .i64 nm, .int .i64 base, .int .u32 seed] 50)).alloc (Obj.cells #[.int .u8 70, .int .u8 76, .int .u8 85, .int .u8 77, .int .u8 69, .int .u8 76, .int .u8 79, .int .u8 71] 5 (8, 9))).heap[w.heap.size + 1]? = some _ := heap_alloc2_new w _ _
  have hmag := rd_block (l := magic) rfl p1
  have kc := conv_const
  go_enter Try.func48, Try.ntmps48
  go_wp2_with fail
  clear p1 kc
  generalize ((w.alloc (Obj.cells #[.int .i64 nm, .int .i64 base, .int .u32 seed] 50)).alloc (Obj.cells #[.int .u8 70, .int .u8 76, .int .u8 85, .int .u8 77, .int .u8 69, .int .u8 76, .int .u8 79, .int .u8 71] 5 (8, 9))) = W0 at *
  refine (rfixed_any nm (by omega) 8 (by omega) W0).mono ?_
  rintro e W1 ⟨A1, c1, rfl, ho1, hb1⟩
  have hmag1 := hmag.keep hb1
  have q1 := (hb1.block _ (Array.getElem?_eq_some_iff.1 p0).1).trans p0
  go_wp2_with (at_builtin; refine wpList_append_full rfl (.tmp 6) (.tmp 10) rfl rfl rfl hmag1 rfl ho1.rd ho1.len (by omega) (by omega) (by omega) ?_; intro A2 c2 W2 ho2 hb2; have q2 := (hb2.block _ (Array.getElem?_eq_some_iff.1 q1).1).trans q1; have d1 := cell_of_row _ _ 1 _ _ _ q2)
  have hw1 : w.heap.size < W1.heap.size := (Array.getElem?_eq_some_iff.1 q1).1
  have hb02 := thn (thn hb0 hb1) hb2
  clear hmag hmag1 p0 q1 d1
  refine (rfixed_any base (by omega) 8 (by omega) W2).mono ?_
  rintro e W3 ⟨A3, c3, rfl, ho3, hb3⟩
  have q3 := (hb3.block _ (Array.getElem?_eq_some_iff.1 q2).1).trans q2
  have hs3 := Nat.le_trans hb2.size hb3.size
  have hb03 := thn hb02 hb3
  go_wp2_with (at_builtin; refine wpList_append_s rfl (.tmp 12) (.tmp 16) rfl rfl rfl (ho2.keep hb3) ho3.rd ho3.len (by omega) hs3 ?_; intro A4 c4 W4 ho4 hb4; have q4 := (hb4.block _ hw1).trans q3; have d2 := cell_of_row _ _ 2 _ _ _ q4)
  refine (rfixed_any seed (by omega) 4 (by omega) W4).mono ?_
  rintro e W5 ⟨A5, c5, rfl, ho5, hb5⟩
  clear q2 q3 q4 d2
  have hb05 := thn (hb03.trans (hb4.mono (Nat.le_of_lt hw1))) hb5
  have hs5 := Nat.le_trans (Nat.le_trans hs3 hb4.size) hb5.size
  go_wp2_with (at_builtin; refine wpList_append_s rfl (.tmp 18) (.tmp 22) rfl rfl rfl (ho4.keep hb5) ho5.rd ho5.len (by omega) hs5 ?_; intro A6 c6 W6 ho6 hb6)
  rw [← Hnm.out] at ho6
  go_ret
  exact ⟨A6, _, c6, rfl, ho6.mono (Nat.le_of_lt hw1), hb05.trans (hb6.mono (Nat.le_of_lt hw1))⟩

set_option maxRecDepth 100000 in
set_option maxHeartbeats 400000 in
theorem rwhead_ok (nm base seed : Nat) (h1 : 1 ≤ nm) (h2 : nm < 9223372036854775808) (h3 : 1 ≤ base) (h4 : base < 9223372036854775808) (hs : seed < 4294967296) (w : World) :
    Calls Try.prog 25 #[.agg #[.int .i64 nm, .int .i64 base, .int .u32 seed]] w (Wrote w (whead nm base seed)) := by
  have hwh : whead nm base seed = (bareB nm base seed ++ le 4 (mask (csum (bareB nm base seed))), csum (bareB nm base seed), 0) := by rw [whead, if_neg (by omega)]; rfl
  have Hwh := Lib.hid hwh
  have hcs := csum_lt (bareB nm base seed)
  have hlen : (bareB nm base seed).length = 28 := by simp [bareB, magic, le_length]
  clear hwh
  have hb0 : Below w.heap.size w (w.alloc (Obj.cells #[.int .i64 nm, .int .i64 base, .int .u32 seed] 50)) := (Below.refl _ _).alloc (Nat.le_refl _) _
  go_enter Try.func25, Try.ntmps25
  go_wp2_with fail
  refine (bare_ok nm base seed h2 h4 hs _).mono ?_
  rintro e W1 ⟨A1, n1, c1, rfl, ho1, hb1⟩
  have hn1 : n1 = 28 := by have := ho1.len; omega
  subst hn1
  have hb01 := thn hb0 hb1
  have hw : w.heap.size ≤ (w.alloc (Obj.cells #[.int .i64 nm, .int .i64 base, .int .u32 seed] 50)).heap.size := hb0.size
  generalize (w.alloc (Obj.cells #[.int .i64 nm, .int .i64 base, .int .u32 seed] 50)) = W0 at *
  generalize bareB nm base seed = bb at *
  clear hlen
  go_wp2_with fail
  refine (rsum_n bb _ ho1.len A1 _ _ ho1.rd (by omega)).mono ?_
  rintro e W7 ⟨rfl, rfl⟩
  go_wp2_with fail
  refine (rmask_any (csum bb) hcs _).mono ?_
  rintro e W7' ⟨rfl, rfl⟩
  have hms := mask_lt (csum bb)
  go_wp2_with fail
  refine (rfixed_any (mask (csum bb)) (by omega) 4 (by omega) _).mono ?_
  rintro e W8 ⟨A8, c8, rfl, ho8, hb8⟩
  have hs8 := Nat.le_trans hb1.size hb8.size
  go_wp2_with (at_builtin; refine wpList_append_s rfl (.tmp 19) (.tmp 23) rfl rfl rfl (ho1.keep hb8) ho8.rd ho8.len (by omega) hs8 ?_; intro A9 c9 W9 ho9 hb9)
  rw [Hwh.out]
  go_ret3
  exact ⟨A9, _, c9, rfl, ho9.mono hw, (thn hb01 hb8).trans (hb9.mono hw)⟩

set_option maxRecDepth 100000 in
set_option maxHeartbeats 400000 in
theorem rwhead_any (nm base : Int) (seed : Nat) (g1 : -9223372036854775808 ≤ nm) (g2 : nm < 9223372036854775808) (g3 : -9223372036854775808 ≤ base) (g4 : base < 9223372036854775808) (hs : seed < 4294967296) (w : World) :
    Calls Try.prog 25 #[.agg #[.int .i64 nm, .int .i64 base, .int .u32 seed]] w (Wrote w (whead nm base seed)) := by
  have hb0 : Below w.heap.size w (w.alloc (Obj.cells #[.int .i64 nm, .int .i64 base, .int .u32 seed] 50)) := (Below.refl _ _).alloc (Nat.le_refl _) _
  by_cases h1 : nm < 1
  · have e : whead nm base seed = ([], 0, 1) := by rw [whead, if_pos (.inl h1)]
    rw [e]
    go_enter Try.func25, Try.ntmps25
    go_wp2
    go_ret3
    exact ⟨none, 0, 0, rfl, Own.nil _ _, hb0⟩
  · by_cases h2 : base < 1
    · have e : whead nm base seed = ([], 0, 1) := by rw [whead, if_pos (.inr h2)]
      rw [e]
      go_enter Try.func25, Try.ntmps25
      go_wp2
      go_ret3
      exact ⟨none, 0, 0, rfl, Own.nil _ _, hb0⟩
    · obtain ⟨a, rfl⟩ := Int.eq_ofNat_of_zero_le (a := nm) (by omega)
      obtain ⟨b, rfl⟩ := Int.eq_ofNat_of_zero_le (a := base) (by omega)
      exact rwhead_ok a b seed (by omega) (by omega) (by omega) (by omega) hs w
end Go.Proofs.Ytdfabjkffjacoaa
