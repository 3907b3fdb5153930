/- Walk: flumelaw6.FrameBack. -/
import Derived.Test.YtdfabjkffjacoaaBegun
namespace Go.Proofs.Ytdfabjkffjacoaa
open Go.RowKit

theorem fread_at (s : Int) (seed : Nat) (hs : s = seed) (hsd : seed < 4294967296) (l : List UInt8) (n : Nat) (hl : l.length = n) (hn : n ≤ 9223372036854775807) (A : Option Addr) (cp : Nat) (hc : n ≤ cp) (w : World) (hr : Rd w A (bv l)) :
    Calls Try.prog 21 #[.int .u32 s, .slice A n cp] w (FReadP w (fread seed l)) := by
  subst hs; exact fread_any seed hsd l n hl hn A cp hc w hr

theorem fwrite_cases (seed : Nat) (lsn : Int) (l : List UInt8) :
    (∃ L : Nat, lsn = L ∧ 1 ≤ L ∧ L ≤ 9223372036854775806 ∧ l.length ≤ 4096 ∧ fwrite seed lsn l = (frameB seed L l, fsum seed L l, 0)) ∨
    (∃ k, k ≠ 0 ∧ k ≤ 5 ∧ fwrite seed lsn l = ([], 0, k)) := by
  unfold fwrite
  by_cases h1 : lsn < 1 ∨ 9223372036854775806 < lsn
  · exact .inr ⟨1, by omega, by omega, by rw [if_pos h1]⟩
  · by_cases h2 : 4096 < l.length
    · exact .inr ⟨3, by omega, by omega, by rw [if_neg h1, if_pos h2]⟩
    · obtain ⟨L, rfl⟩ := Int.eq_ofNat_of_zero_le (a := lsn) (by omega)
      exact .inl ⟨L, rfl, by omega, by omega, by omega, by rw [if_neg h1, if_neg h2, Int.toNat_natCast]⟩
theorem fread_cases (seed : Nat) (b : List UInt8) :
    (∃ k, k ≠ 0 ∧ k ≤ 5 ∧ fread seed b = (0, [], 0, 0, k)) ∨
    (∃ (L : Nat) (d : List UInt8) (N : Nat), fread seed b = (L, d, N, fsum seed L d, 0) ∧ 1 ≤ L ∧ L ≤ 9223372036854775806 ∧ d.length ≤ 4096 ∧ N = 16 + d.length ∧ N ≤ b.length ∧ frameB seed L d = b.take N) := by
  by_cases h : (fread seed b).2.2.2.2 = 0
  · obtain ⟨a1, a2, a3, a4, a5, a6, a7⟩ := fwrite_fread seed b h
    refine .inr ⟨(fread seed b).1, (fread seed b).2.1, (fread seed b).2.2.1, ?_, a1, a2, a3, a4, a5, a7⟩
    rw [← a6, ← h]
  · have he := fread_err seed b
    refine .inl ⟨_, h, he, ?_⟩
    unfold fread at h ⊢
    split at h
    · rename_i hh; rw [if_pos hh]
    rename_i h1; rw [if_neg h1]
    split at h
    · rename_i hh; rw [if_pos hh]
    rename_i h2; rw [if_neg h2]
    split at h
    · rename_i hh; rw [if_pos hh]
    rename_i h3; rw [if_neg h3]
    split at h
    · rename_i hh; rw [if_pos hh]
    rename_i h4; rw [if_neg h4]
    split at h
    · rename_i hh; rw [if_pos hh]
    · simp at h
theorem recB_self (a : Int) (l : List UInt8) : recB a a l l = true := by simp [recB, eqB]

set_option maxRecDepth 100000 in
set_option maxHeartbeats 2000000 in
theorem back_any (lsn : Int) (seed : Nat) (l l' : List UInt8) (n c n' c' : Nat) (A A' : Option Addr) (w : World) (hr : Rd w A (bv l)) (hr' : Rd w A' (bv l')) (hl : l.length = n) (hl' : l'.length = n')
    (hn : n ≤ 9223372036854775807) (hn' : n' + 4112 ≤ 140737488355328) (hc' : n' ≤ c') (g1 : -9223372036854775808 ≤ lsn) (g2 : lsn ≤ 9223372036854775807) (hsd : seed < 4294967296) :
    Calls Try.prog 5 #[.agg #[.int .i64 lsn, .slice A n c], .int .u32 seed, .slice A' n' c'] w (EqRP w true) := by
  have hb0 : Below w.heap.size w (w.alloc (Obj.cells #[.int .i64 lsn, .slice A n c] 34)) := (Below.refl _ _).alloc (Nat.le_refl _) _
  have p0 : (w.alloc (Obj.cells #[.int .i64 lsn, .slice A n c] 34)).heap[w.heap.size]? = some (.cells #[.int .i64 lsn, .slice A n c] 34 (0, 0)) := heap_alloc_new w _
  go_enter Try.func5, Try.ntmps5
  go_wp2_with fail
  generalize (w.alloc (Obj.cells #[.int .i64 lsn, .slice A n c] 34)) = W0 at *
  refine (begun_any W0).mono ?_
  rintro e W1 ⟨rfl, hb1⟩
  have p1 := (hb1.block _ (Array.getElem?_eq_some_iff.1 p0).1).trans p0
  have hb01 := thn hb0 hb1
  have hr1 := hr.keep hb01
  have c0 := cell_of_row _ _ 0 _ _ _ p1
  have c1 := cell_of_row _ _ 1 _ _ _ p1
  clear p0 hb0 hb1
  go_wp2_with fail
  refine (write_n seed hsd lsn g1 g2 l n hl hn A c W1 hr1).mono ?_
  rintro e W2 ⟨A2, n2, c2, rfl, ho2, hb2⟩
  have hb02 := thn hb01 hb2
  have p2 := (hb2.block _ (Array.getElem?_eq_some_iff.1 p1).1).trans p1
  clear c0 c1 p1 hr1
  rcases fwrite_cases seed lsn l with ⟨L, rfl, hL1, hL2, hl4, hfw⟩ | ⟨k, hk0, hk5, hfw⟩
  focus
    rw [hfw] at ho2 ⊢
    clear hfw
    have hn2 : n2 = 16 + n := by have := ho2.len; rw [frameB_length] at this; omega
    subst hn2
    have hfr := fread_fwrite seed L l l' hL1 hL2 hl4
    have hS := fsum_lt seed L l
    rw [hl] at hfr
    generalize frameB seed L l = fb at *
    generalize fsum seed L l = S at *
    have Hfr := Lib.hid hfr
    clear hfr
    have hr2' := hr'.keep hb02
    go_wp2_with (first
      | (at_builtin; refine wpList_append_s rfl (.const (.slice none 0 0)) (.tmp 36) rfl rfl rfl (Own.nil W2.heap.size W2) ho2.rd ho2.len (by omega) (Nat.le_refl _) ?_; intro A3 c3 W3 ho3 hb3; rw [Nat.zero_add, List.nil_append] at ho3)
      | (at_builtin; refine wpList_append_s rfl (.tmp 37) (.tmp 38) rfl rfl rfl ho3 (hr2'.keep hb3) hl' (by omega) hb3.size ?_; intro A4 c4 W4 ho4 hb4))
    have hb24 := hb3.trans hb4
    have hb04 := thn hb02 hb24
    have p4 := (hb24.block _ (Array.getElem?_eq_some_iff.1 p2).1).trans p2
    clear hb3 hb4 ho3 p2 hr2'
    refine (fread_any seed hsd (fb ++ l') _ ho4.len (by omega) A4 c4 ho4.cap_le W4 ho4.rd).mono ?_
    rw [Hfr.out]
    rintro e W5 ⟨A5, n5, c5, rfl, ho5, hb5⟩
    have hn5 : n5 = n := by have := ho5.len; simp only at this; omega
    subst hn5
    have hb6 : Below W5.heap.size W5 (W5.alloc (Obj.cells #[.int .i64 L, .slice A5 n5 c5] 34)) := (Below.refl _ _).alloc (Nat.le_refl _) _
    have hb46 := thn hb5 hb6
    have p6 := (hb46.block _ (Array.getElem?_eq_some_iff.1 p4).1).trans p4
    have d0 := cell_of_row _ _ 0 _ _ _ p6
    have d1 := cell_of_row _ _ 1 _ _ _ p6
    have hb06 := thn hb04 hb46
    have hr6 := hr.keep hb06
    have ho6 := ho5.keep hb6
    have hrec := recB_self L l
    have hfs : fsize (n5 : Int) = 16 + (n5 : Int) := by rw [fsize, if_pos (by omega)]
    go_wp2_with fail
    clear p4 hb5 ho5 hb46 ho4 ho2
    generalize (W5.alloc (Obj.cells #[.int .i64 L, .slice A5 n5 c5] 34)) = W6 at *
    refine (eqr_any L L l l n5 n5 hl hl hn A5 A c5 c W6 ho6.rd hr6).mono ?_
    rintro e W7 ⟨rfl, hb7⟩
    rw [hrec]
    have p7 := (hb7.block _ (Array.getElem?_eq_some_iff.1 p6).1).trans p6
    have q1 := cell_of_row _ _ 1 _ _ _ p7
    have hb07 := thn hb06 hb7
    clear d0 d1 p6 hr6 ho6
    go_wp2_with (go_at_call 12; refine (size_any n5 _ (by omega) (by omega)).mono ?_; rintro e W8 ⟨rfl, rfl⟩)
    obtain ⟨W, rfl⟩ : ∃ W, W = W7 := ⟨_, rfl⟩
    have hbW := hb07
    clear hb07 hb06 hb6 hb7 q1 p7 hfs hrec Hfr
  rotate_left
  focus
    rw [hfw] at ho2 ⊢
    clear hfw
    have hk : ((k : Int) == 0) = false := by simp; omega
    clear ho2
    go_wp2_with fail
    obtain ⟨W, rfl⟩ : ∃ W, W = W2 := ⟨_, rfl⟩
    have hbW := hb02
  all_goals
    have hrW := hr'.keep hbW
    refine (fread_any seed hsd l' n' hl' (by omega) A' c' hc' W hrW).mono ?_
    rintro e W8 ⟨A8, n8, c8, rfl, ho8, hb8⟩
    have hb08 := thn hbW hb8
    rcases fread_cases seed l' with ⟨k8, hk0', hk5', hf⟩ | ⟨L8, d8, N8, hf, e1, e2, e3, e4, e5, e6⟩
    · rw [hf] at ho8 ⊢
      clear hf
      have hkb : ((k8 : Int) != 0) = true := by simp; omega
      go_wp2
      go_ret
      exact ⟨rfl, hb08.alloc hb08.size _⟩
    · rw [hf] at ho8 ⊢
      clear hf
      obtain rfl : d8.length = n8 := ho8.len
      have hfw8 : fwrite seed L8 d8 = (frameB seed L8 d8, fsum seed L8 d8, 0) := by rw [fwrite, if_neg (by omega), if_neg (by omega), Int.toNat_natCast]
      have Hfw := Lib.hid hfw8
      clear hfw8
      have hb9 : Below W8.heap.size W8 (W8.alloc (Obj.cells #[.int .i64 L8, .slice A8 d8.length c8] 34)) := (Below.refl _ _).alloc (Nat.le_refl _) _
      have hS8 := fsum_lt seed L8 d8
      have ho9 := ho8.keep hb9
      have hb09 := thn hb08 hb9
      clear e4
      go_wp2_with fail
      generalize (W8.alloc (Obj.cells #[.int .i64 L8, .slice A8 d8.length c8] 34)) = W9 at *
      refine (write_n seed hsd L8 (by omega) (by omega) d8 d8.length rfl (by omega) A8 c8 W9 ho9.rd).mono ?_
      rw [Hfw.out]
      rintro e W10 ⟨A10, n10, c10, rfl, ho10, hb10⟩
      have hb10' := thn hb09 hb10
      have hr10 := hr'.keep hb10'
      have htk : Rd W10 A' (bv (l'.take N8)) := by rw [show bv (l'.take N8) = (bv l').take N8 from by simp [bv, List.map_take]]; exact hr10.take
      have hE : eqB (frameB seed L8 d8) (l'.take N8) = true := by simp [eqB, e6]
      have hlt8 : (l'.take N8).length = N8 := List.length_take_of_le e5
      have hNc : N8 ≤ c' := by omega
      have HE := Lib.hid hE
      have hl10 := ho10.len
      have hn10 : n10 ≤ 9223372036854775807 := by have := ho10.cap_le; have := ho10.cap_max; omega
      generalize fsum seed L8 d8 = S8 at *
      clear hE e6 Hfw
      go_wp2_with fail
      refine (eq_any _ _ n10 N8 hl10 hlt8 hn10 A10 A' c10 _ W10 ho10.rd htk).mono ?_
      rintro e W11 ⟨rfl, q11, rfl⟩
      rw [HE.out]
      go_wp2
      go_ret
      exact ⟨rfl, hb10'.trans (drewN_below _ _ _)⟩
end Go.Proofs.Ytdfabjkffjacoaa
