/- Walks: crc's functions compute the CRC-32C of the plain file. -/
import Derived.Test.YtdfabjkffjacoaaRows
import Derived.Test.YtdfabjkffjacoaaWords
namespace Go.Proofs.Ytdfabjkffjacoaa
open Go.RowKit

theorem step_t (x k c : Nat) (hx : x < 4294967296) (H : Hid (stepK k c = x)) (h : (bits BinOp.and IntKind.u32 (x : Int) 1 == 1) = true) :
    Value.int .u32 (bits BinOp.xor IntKind.u32 ((x : Int) / 2) 2197175160) = Value.int .u32 (stepK (k + 1) c : Nat) := by
  rw [and1_u32 x hx] at h
  have h2 : x % 2 = 1 := by have := eq_of_beq h; omega
  have := xor_u32 (x / 2) 2197175160 (by omega) (by omega)
  refine val_int ?_
  rw [stepK, H.out, step1, if_pos h2]
  rw [← this]; rfl
theorem step_f (x k c : Nat) (hx : x < 4294967296) (H : Hid (stepK k c = x)) (h : (bits BinOp.and IntKind.u32 (x : Int) 1 == 1) = false) :
    Value.int .u32 ((x : Int) / 2) = Value.int .u32 (stepK (k + 1) c : Nat) := by
  rw [and1_u32 x hx] at h
  have h2 : ¬ x % 2 = 1 := by have := ne_of_beq_false h; omega
  refine val_int ?_
  rw [stepK, H.out, step1, if_neg h2]
  rfl
theorem rem_t (x k c : Nat) (hx : x < 4294967296) (H : Hid (stepK k c = x)) (h : ((x : Int) % 2 == 1) = true) :
    Value.int .u32 (bits BinOp.xor IntKind.u32 ((x : Int) / 2) 2197175160) = Value.int .u32 (stepK (k + 1) c : Nat) := by
  have h2 : x % 2 = 1 := by have := eq_of_beq h; omega
  have := xor_u32 (x / 2) 2197175160 (by omega) (by omega)
  refine val_int ?_
  rw [stepK, H.out, step1, if_pos h2]
  rw [← this]; rfl
theorem rem_f (x k c : Nat) (H : Hid (stepK k c = x)) (h : ((x : Int) % 2 == 1) = false) :
    Value.int .u32 ((x : Int) / 2) = Value.int .u32 (stepK (k + 1) c : Nat) := by
  have h2 : ¬ x % 2 = 1 := by have := ne_of_beq_false h; omega
  refine val_int ?_
  rw [stepK, H.out, step1, if_neg h2]
  rfl

set_option maxHeartbeats 400000 in
theorem step_any (c : Nat) (hc : c < 4294967296) (w : World) :
    Calls Try.prog 66 #[.int .u32 c] w fun e w' => e = .returned (.int .u32 (stepK 8 c : Nat)) ∧ w = w' := by
  go_enter Try.func66, Try.ntmps66
  go_wp2
  go_loop [0, 3, 4] (fun x _ i => ∃ k : Nat, k ≤ 8 ∧ i = .int .i64 k ∧ x = .int .u32 (stepK k c : Nat)) (fun _ _ i => 8 - (intOf i).toNat)
  case atStart => exact ⟨0, by omega, rfl, rfl⟩
  case round =>
    obtain ⟨k, hk, rfl, rfl⟩ := hrel
    have hb := stepK_lt k hc
    generalize hx : stepK k c = x at *
    have Hx := Lib.hid hx; clear hx
    by_cases hlt : k < 8
    · go_wp2
      · exact ⟨⟨k + 1, by omega, by go_num, step_t x k c hb Hx (by assumption)⟩, by simp [intOf]; omega⟩
      · exact ⟨⟨k + 1, by omega, by go_num, step_f x k c hb Hx (by assumption)⟩, by simp [intOf]; omega⟩
    · go_wp2
      go_ret
      have e8 : k = 8 := by omega
      exact ⟨ret_int (by rw [← Hx.out, e8]), rfl⟩

set_option maxHeartbeats 400000 in
theorem rstep_any (c : Nat) (hc : c < 4294967296) (w : World) :
    Calls Try.prog 68 #[.int .u32 c] w fun e w' => e = .returned (.int .u32 (stepK 8 c : Nat)) ∧ w = w' := by
  go_enter Try.func68, Try.ntmps68
  go_wp2
  go_loop [0, 3] (fun x i => ∃ k : Nat, k ≤ 8 ∧ i = .int .i64 k ∧ x = .int .u32 (stepK k c : Nat)) (fun _ i => 8 - (intOf i).toNat)
  case atStart => exact ⟨0, by omega, rfl, rfl⟩
  case round =>
    obtain ⟨k, hk, rfl, rfl⟩ := hrel
    have hb := stepK_lt k hc
    generalize hx : stepK k c = x at *
    have Hx := Lib.hid hx; clear hx
    by_cases hlt : k < 8
    · go_wp2
      · exact ⟨⟨k + 1, by omega, by go_num, rem_t x k c hb Hx (by assumption)⟩, by simp [intOf]; omega⟩
      · exact ⟨⟨k + 1, by omega, by go_num, rem_f x k c Hx (by assumption)⟩, by simp [intOf]; omega⟩
    · go_wp2
      go_ret
      have e8 : k = 8 := by omega
      exact ⟨ret_int (by rw [← Hx.out, e8]), rfl⟩

set_option maxHeartbeats 400000 in
theorem rmask_any (c : Nat) (hc : c < 4294967296) (w : World) :
    Calls Try.prog 41 #[.int .u32 c] w fun e w' => e = .returned (.int .u32 (mask c : Nat)) ∧ w = w' := by
  go_enter Try.func41, Try.ntmps41
  go_wp2
  go_ret
  exact ⟨ret_int (mask_or c hc), rfl⟩
set_option maxHeartbeats 400000 in
theorem rot_any (c : Nat) (w : World) :
    Calls Try.prog 54 #[.int .u32 c, .int .i64 (-15)] w fun e w' => e = .returned (.int .u32 (bits BinOp.or IntKind.u32 ((c : Int) * 131072 % 4294967296) ((c : Int) / 32768))) ∧ w = w' := by
  go_enter Try.func54, Try.ntmps54
  have hk : bits BinOp.and IntKind.u64 (IntKind.u64.wrap (-15)) 31 = 17 := by kernel_rfl
  go_wp2
  go_ret
  exact ⟨rfl, rfl⟩
set_option maxHeartbeats 400000 in
theorem mask_any (c : Nat) (hc : c < 4294967296) (w : World) :
    Calls Try.prog 38 #[.int .u32 c] w fun e w' => e = .returned (.int .u32 (mask c : Nat)) ∧ w = w' := by
  go_enter Try.func38, Try.ntmps38
  go_wp2_with (go_at_call 54; refine (rot_any _ _).mono ?_; rintro e w' ⟨rfl, rfl⟩)
  go_ret
  exact ⟨ret_int (mask_ro c hc), rfl⟩

set_option maxHeartbeats 400000 in
theorem rmore_any (s : Nat) (hs : s < 4294967296) (l : List UInt8) (A : Option Addr) (cp : Nat) (w : World) (hr : Rd w A (bv l)) (hl : l.length ≤ 9223372036854775807) :
    Calls Try.prog 60 #[.int .u32 s, .slice A l.length cp] w fun e w' => e = .returned (.int .u32 (more s l : Nat)) ∧ w = w' := by
  go_enter Try.func60, Try.ntmps60
  have hx := xorf_u32 s hs
  have hb0 := xor_lt hs (show 4294967295 < 4294967296 by omega)
  generalize he : s ^^^ 4294967295 = t at *
  have He := Lib.hid he; clear he
  go_wp2
  clear hx
  go_loop [5, 6] (fun c i => ∃ k : Nat, k ≤ l.length ∧ i = .int .i64 k ∧ c = .int .u32 (regs t (l.take k) : Nat)) (fun _ i => l.length - (intOf i).toNat)
  case atStart => exact ⟨0, by omega, rfl, rfl⟩
  case round =>
    obtain ⟨k, hk, rfl, rfl⟩ := hrel
    have hb := regs_lt (l.take k) hb0
    generalize hx : regs t (l.take k) = x at *
    have Hx := Lib.hid hx; clear hx
    by_cases hlt : k < l.length
    · obtain ⟨ad, rfl, hc⟩ := hr.byte hlt
      have hy := xor_byte x l[k] hb
      have hz := xor_lt hb (byte_lt l[k])
      go_wp2_with (go_at_call 68; refine (rstep_any _ hz _).mono ?_; rintro e w' ⟨rfl, rfl⟩)
      exact ⟨⟨k + 1, by omega, by go_num, by rw [take_snoc l k hlt, regs_snoc, Hx.out]⟩, by simp [intOf]; omega⟩
    · have hz := xorf_u32 x hb
      go_wp2
      go_ret
      have e8 : k = l.length := by omega
      exact ⟨ret_int (by rw [more, He.out, ← Hx.out, e8, List.take_length]), rfl⟩

end Go.Proofs.Ytdfabjkffjacoaa
