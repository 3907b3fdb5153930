/- Walks: wire's Reader. -/
import Derived.Test.YtdfabjkffjacoaaWrite
import Derived.Deep.QuietTactic
import Derived.BigQuiet
namespace Go.Proofs.Ytdfabjkffjacoaa
open Go.RowKit

def rdr (A : Option Addr) (n c at_ : Nat) : Obj := .cells #[.slice A n c, .int .i64 at_, .int .i64 0] 99 (0, 0)

theorem rd_cut {w : World} {A : Option Addr} {l : List UInt8} {n c k : Nat} (hr : Rd w A (bv l)) (hl : l.length = n) (hc : n ≤ c) (hk : k ≤ n) :
    Rd w (if c = k then A else A.map (·.add k)) (bv (l.drop k)) := by
  by_cases h : c = k
  · rw [if_pos h, List.drop_eq_nil_of_le (by omega)]
    exact Rd.nil _ _
  · rw [if_neg h]
    have e : bv (l.drop k) = (bv l).drop k := by simp [bv, List.map_drop]
    rw [e]
    exact hr.drop
theorem rd_drewN {w : World} {A : Option Addr} {l : List Value} (hr : Rd w A l) (k : Nat) : Rd (w.drewN k) A l := hr

def RestP (w : World) (l : List UInt8) (m : Nat) (e : Ending) (w' : World) : Prop := ∃ A' c' k, e = .returned (.slice A' m c') ∧ Rd w A' (bv l) ∧ w' = w.drewN k

set_option maxHeartbeats 400000 in
theorem rest_any (g : Nat) (A : Option Addr) (l : List UInt8) (n c at_ : Nat) (hl : l.length = n) (h1 : at_ ≤ n) (h2 : n ≤ c) (_h3 : c ≤ 9223372036854775807) (w : World) (hr : Rd w A (bv l)) (hg : w.heap[g]? = some (rdr A n c at_)) :
    Calls Try.prog 63 #[.pointer (some ⟨g, 0, none⟩)] w (RestP w (l.drop at_) (n - at_)) := by
  have c0 : w.cell? ⟨g, 0, none⟩ = some (.slice A n c) := cell_of_row w g 0 _ _ _ hg
  have c1 : w.cell? ⟨g, 1, none⟩ = some (.int .i64 at_) := cell_of_row w g 1 _ _ _ hg
  have c2 : w.cell? ⟨g, 2, none⟩ = some (.int .i64 0) := cell_of_row w g 2 _ _ _ hg
  have hR := rd_cut hr hl h2 h1
  have HR := Lib.hid hR
  clear hg hR hr hl
  go_enter Try.func63, Try.ntmps63
  go_wp2
  go_quiet (fail)
  go_wp2
  · go_ret
    have h : c = at_ := by assumption
    have := HR.out
    rw [if_pos h] at this
    exact ⟨_, _, nq, rfl, this, rfl⟩
  · go_ret
    have h : ¬ c = at_ := by assumption
    have := HR.out
    rw [if_neg h] at this
    exact ⟨_, _, nq, rfl, this, rfl⟩

theorem or_step (x k : Nat) (b : UInt8) (hk : k < 8) (hx : x < 256 ^ k) :
    bits BinOp.or IntKind.u64 (x : Int) (IntKind.u64.wrap (IntKind.u64.wrap (b.toNat : Int) * 2 ^ (8 * k))) = ((x + 256 ^ k * b.toNat : Nat) : Int) := by
  have hb := b.toNat_lt
  have hp : (2 : Nat) ^ (8 * k) = 256 ^ k := by rw [Nat.pow_mul]
  have hle : 256 ^ k * b.toNat + 256 ^ k ≤ 256 ^ 8 := by
    calc 256 ^ k * b.toNat + 256 ^ k = 256 ^ k * (b.toNat + 1) := by rw [Nat.mul_add, Nat.mul_one]
      _ ≤ 256 ^ k * 256 := Nat.mul_le_mul_left _ (by omega)
      _ = 256 ^ (k + 1) := by rw [Nat.pow_succ]
      _ ≤ 256 ^ 8 := Nat.pow_le_pow_right (by omega) (by omega)
  have h8 : (256 : Nat) ^ 8 = 18446744073709551616 := by decide
  have hpos : 0 < 256 ^ k := Nat.pow_pos (by omega)
  have e0 : IntKind.u64.wrap (b.toNat : Int) = (b.toNat : Int) := by rw [IntKind.wrap_u64]; omega
  have e1 : ((b.toNat : Int) * 2 ^ (8 * k)) = ((256 ^ k * b.toNat : Nat) : Int) := by rw [← hp, Nat.mul_comm]; push_cast; rw [Int.mul_comm]
  have e2 : IntKind.u64.wrap ((256 ^ k * b.toNat : Nat) : Int) = ((256 ^ k * b.toNat : Nat) : Int) := by rw [IntKind.wrap_u64]; omega
  rw [e0, e1, e2, u64_or_nat x (256 ^ k * b.toNat) (by omega) (by omega), Nat.or_comm, nat_join (8 * k) _ x (by rw [hp, Nat.mul_mod_right]) (by rw [hp]; exact hx), Nat.add_comm]

theorem num_step (t : List UInt8) (k x : Nat) (hk : k < t.length) (hx : num (t.take k) = x) : Value.int .u64 ((x : Int) + 256 ^ k * (t[k].toNat : Int)) = Value.int .u64 (num (t.take (k + 1)) : Nat) := by
  rw [take_snoc t k hk, num_snoc, hx, List.length_take_of_le (by omega)]
  refine val_int ?_
  rw [Int.natCast_add, Int.natCast_mul, Int.natCast_pow]
  rfl

set_option maxHeartbeats 400000 in
theorem took_any (g : Nat) (A : Option Addr) (n c at_ s : Nat) (h1 : at_ + s ≤ n) (h2 : n ≤ 9223372036854775807) (w : World) (hg : w.heap[g]? = some (rdr A n c at_)) :
    Calls Try.prog 64 #[.pointer (some ⟨g, 0, none⟩), .int .i64 s, .int .i64 0] w fun e w' => e = .returned (.tuple #[]) ∧ w' = w.setCell ⟨g, 1, none⟩ (.int .i64 (at_ + s : Nat)) := by
  have c1 : w.cell? ⟨g, 1, none⟩ = some (.int .i64 at_) := cell_of_row w g 1 _ _ _ hg
  have f1 : w.frozen? ⟨g, 1, none⟩ = false := frozen_of_row w g 1 _ _ hg
  clear hg
  go_enter Try.func64, Try.ntmps64
  go_wp2
  go_end0
  exact ⟨rfl, rfl⟩

set_option maxHeartbeats 400000 in
theorem low_any (g : Nat) (A : Option Addr) (l : List UInt8) (n c at_ s : Nat) (hs : s ≤ 8) (hl : l.length = n) (h1 : at_ + s ≤ n) (h2 : n ≤ c) (h3 : c ≤ 9223372036854775807) (w : World) (hr : Rd w A (bv l)) (hg : w.heap[g]? = some (rdr A n c at_)) :
    Calls Try.prog 57 #[.pointer (some ⟨g, 0, none⟩), .int .i64 s] w fun e w' => e = .returned (.int .u64 (num ((l.drop at_).take s) : Nat)) ∧ w.grownBy w' (some g) ∧ w'.heap[g]? = some (rdr A n c (at_ + s)) := by
  go_enter Try.func57, Try.ntmps57
  go_wp2_with fail
  refine (rest_any g A l n c at_ hl (by omega) h2 h3 _ hr hg).mono ?_
  rintro e w1 ⟨A', c', nq, rfl, hR, rfl⟩
  have hd : decide (n - at_ < s) = false := by simp; omega
  go_wp2_with fail
  clear hd
  have hll : (l.drop at_).length = n - at_ := by rw [List.length_drop, hl]
  generalize ht : l.drop at_ = t at *
  have Ht := Lib.hid ht; clear ht
  go_loop [6, 7, 17] (fun x _ i => ∃ k : Nat, k ≤ s ∧ i = .int .i64 k ∧ x = .int .u64 (num (t.take k) : Nat)) (fun _ _ i => s - (intOf i).toNat)
  case atStart => exact ⟨0, by omega, rfl, rfl⟩
  case round =>
    obtain ⟨k, hk, rfl, rfl⟩ := hrel
    have hb := num_lt (t.take k)
    rw [List.length_take_of_le (by omega)] at hb
    generalize hx : num (t.take k) = x at *
    have Hx := Lib.hid hx; clear hx
    by_cases hlt : k < s
    · obtain ⟨ad, rfl, hc⟩ := hR.byte (k := k) (by omega)
      have ho := or_step x k t[k] (by omega) hb
      have h64 : k < n - at_ := by omega
      go_wp2
      exact ⟨⟨k + 1, by omega, by go_num, num_step t k x (by omega) Hx.out⟩, by simp [intOf]; omega⟩
    · have e8 : k = s := by omega
      go_wp2_with fail
      refine (took_any g A n c at_ s h1 (by omega) (w.drewN nq) hg).mono ?_
      rintro e w2 ⟨rfl, rfl⟩
      go_wp2
      go_ret
      refine ⟨ret_int (by rw [← Hx.out, e8, Ht.out]), ?_, ?_⟩
      · exact ⟨rfl, rfl, rfl, by simp [World.setCell], fun j hj hne => by rw [heap_setCell_other _ _ _ _ (fun e => hne (by rw [e]))]; rfl⟩
      · rw [heap_setCell_same (w.drewN nq) g 1 _ _ _ hg]; rfl
end Go.Proofs.Ytdfabjkffjacoaa
