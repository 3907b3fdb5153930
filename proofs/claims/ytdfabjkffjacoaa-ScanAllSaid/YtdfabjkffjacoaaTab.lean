/- Walks: crc.table, crc.More. -/
import Derived.Test.YtdfabjkffjacoaaCrc
namespace Go.Proofs.Ytdfabjkffjacoaa
open Go.RowKit

def tabA (k : Nat) : Array Value := Array.ofFn (n := 256) fun i => if i.val < k then .int .u32 (stepK 8 i.val : Nat) else .int .u32 0
theorem tabA_size (k : Nat) : (tabA k).size = 256 := by simp [tabA]
theorem tabA_get (k j : Nat) (hj : j < 256) : (tabA k)[j]? = some (if j < k then .int .u32 (stepK 8 j : Nat) else .int .u32 0) := by
  rw [Array.getElem?_eq_getElem (by rw [tabA_size]; exact hj)]
  simp [tabA]
theorem tabA_succ (k : Nat) : (tabA k).setIfInBounds k (.int .u32 (stepK 8 k : Nat)) = tabA (k + 1) := by
  apply Array.ext
  · simp [tabA_size]
  · intro i h1 h2
    rw [tabA_size] at h2
    rw [Array.getElem_setIfInBounds (by rw [tabA_size]; exact h2)]
    simp only [tabA, Array.getElem_ofFn]
    by_cases he : k = i
    · subst he; simp
    · have : (i < k) ↔ (i < k + 1) := by omega
      simp [he, this]
theorem tabA_one (k : Nat) : (tabA k).all (·.oneCell') = true := by
  rw [Array.all_eq_true]
  intro i h
  simp only [tabA, Array.getElem_ofFn]
  split <;> rfl
theorem tabA_zero : Try.zeroCells110 = tabA 0 := by kernel_rfl

/-- the loop's world -/
structure TabW (w wr : World) (k : Nat) : Prop where
  below : Below w.heap.size w wr
  size : wr.heap.size = w.heap.size + 2
  r0 : wr.heap[w.heap.size]? = some (.cells (tabA 0) 110 (0, 0))
  r1 : wr.heap[w.heap.size + 1]? = some (.cells (tabA k) 110 (0, 0))
theorem TabW.init (w : World) : TabW w ((w.alloc (Obj.cells Try.zeroCells110 110)).alloc (Obj.cells Try.zeroCells110 110)) 0 where
  below := ((Below.refl _ _).alloc (Nat.le_refl _) _).alloc (by simp) _
  size := by simp
  r0 := by rw [tabA_zero]; exact heap_alloc2_old w _ _
  r1 := by rw [tabA_zero]; exact heap_alloc2_new w _ _
theorem TabW.cell {w wr : World} {k : Nat} (h : TabW w wr k) (hk : k < 256) : wr.cell? ⟨w.heap.size + 1, k, none⟩ = some (.int .u32 0) := by
  rw [cell_of_row wr _ k _ _ _ h.r1, tabA_get k k hk, if_neg (by omega)]
theorem TabW.frozen {w wr : World} {k : Nat} (h : TabW w wr k) : wr.frozen? ⟨w.heap.size + 1, k, none⟩ = false := frozen_of_row wr _ k _ _ h.r1
theorem TabW.next {w wr : World} {k : Nat} (h : TabW w wr k) : TabW w (wr.setCell ⟨w.heap.size + 1, k, none⟩ (.int .u32 (stepK 8 k : Nat))) (k + 1) where
  below := h.below.setCell (by simp) _
  size := by simp [World.setCell, h.size]
  r0 := by rw [heap_setCell_other _ _ _ _ (by simp)]; exact h.r0
  r1 := by rw [heap_setCell_same _ _ _ _ _ _ h.r1, tabA_succ k]

set_option maxRecDepth 100000 in
set_option maxHeartbeats 400000 in
theorem table_any (w : World) :
    Calls Try.prog 67 #[] w fun e w' => e = .returned (.agg (tabA 256)) ∧ Below w.heap.size w w' := by
  go_enter Try.func67, Try.ntmps67
  go_wp2
  have H0 := TabW.init w
  go_loopw [2, 3] (fun _ i wr => ∃ k : Nat, k ≤ 256 ∧ i = .int .i64 k ∧ TabW w wr k) (fun _ i _ => 256 - (intOf i).toNat)
  case atStart => exact ⟨0, by omega, rfl, H0⟩
  case round =>
    obtain ⟨k, hk, rfl, hT⟩ := hrel
    by_cases hlt : k < 256
    · have hc := hT.cell hlt
      have hf := hT.frozen
      have hn := hT.next
      have hT' := Lib.hid hn
      clear hn hT
      go_wp2_with (go_at_call 66; refine (step_any _ (by omega) _).mono ?_; rintro e w' ⟨rfl, rfl⟩)
      go_roundw
      case rel => exact ⟨k + 1, by omega, by go_num, hT'.out⟩
      case measure => simp [intOf]; omega
    · have e8 : k = 256 := by omega
      subst e8
      clear hlt hk
      have hr0 := hT.r0
      have hr1 := hT.r1
      have hb := hT.below
      go_wp2_with (first
        | (refine wpList_load_row rfl _ (.tmp 1) rfl _ rfl _ _ _ _ hr1 Try.underlying110 rfl (by rw [tabA_size]; kernel_rfl) ?_)
        | (refine wpList_store_row rfl _ (.tmp 0) (.tmp 12) rfl _ (tabA 256) rfl rfl _ _ hr0 (by rw [tabA_size]; kernel_rfl) (by rw [tabA_size, tabA_size]) (tabA_one _) ?_))
      have hg0 : (wr.setRow w.heap.size (tabA 256)).heap[w.heap.size]? = some (.cells (tabA 256) 110 (0, 0)) := setRow_heap wr _ _ _ _ _ hr0
      refine bodyPost_ret (results_cell_row rfl _ _ _ _ _ _ _ rfl hg0 Try.underlying110 rfl (by rw [tabA_size]; kernel_rfl)) rfl ⟨rfl, ?_⟩
      exact hb.trans ⟨rfl, rfl, rfl, by simp, fun j hj => setRow_other wr _ j _ (by omega)⟩

theorem more_byte (x : Nat) (b : UInt8) : bits BinOp.xor IntKind.u8 ((x : Int) % 256) (b.toNat : Int) = ((x % 256 ^^^ b.toNat : Nat) : Int) :=
  u8_xor_nat (x % 256) b.toNat (by omega) b.toNat_lt

theorem more_idx (x : Nat) (b : UInt8) : x % 256 ^^^ b.toNat < 256 := Nat.xor_lt_two_pow (n := 8) (by omega) b.toNat_lt
theorem more_step (x : Nat) (b : UInt8) (hx : x < 4294967296) :
    bits BinOp.xor IntKind.u32 ((stepK 8 (x % 256 ^^^ b.toNat) : Nat) : Int) ((x : Int) / 256) = (stepK 8 (x ^^^ b.toNat) : Nat) := by
  have hq := more_idx x b
  have := xor_u32 (stepK 8 (x % 256 ^^^ b.toNat)) (x / 256) (stepK_lt 8 (by omega)) (by omega)
  rw [step_table x, ← this]; rfl

set_option maxRecDepth 100000 in
set_option maxHeartbeats 400000 in
theorem cmore_any (s : Nat) (hs : s < 4294967296) (l : List UInt8) (A : Option Addr) (cp : Nat) (w : World) (hr : Rd w A (bv l)) (hl : l.length ≤ 9223372036854775807) :
    Calls Try.prog 59 #[.int .u32 s, .slice A l.length cp] w fun e w' => e = .returned (.int .u32 (more s l : Nat)) ∧ Below w.heap.size w w' := by
  have hx := xorf_u32 s hs
  have hb0 := xor_lt hs (show 4294967295 < 4294967296 by omega)
  generalize he : s ^^^ 4294967295 = t at *
  have He := Lib.hid he; clear he
  by_cases hlen : l.length < 32
  · have hd : decide ((l.length : Int) < 32) = true := by simp; omega
    go_enter Try.func59, Try.ntmps59
    go_wp2
    clear hx
    go_loop [5, 7, 18] (fun c _ i => ∃ k : Nat, k ≤ l.length ∧ i = .int .i64 k ∧ c = .int .u32 (regs t (l.take k) : Nat)) (fun _ _ i => l.length - (intOf i).toNat)
    case atStart => exact ⟨0, by omega, rfl, rfl⟩
    case round =>
      obtain ⟨k, hk, rfl, rfl⟩ := hrel
      have hb := regs_lt (l.take k) hb0
      generalize hx : regs t (l.take k) = x at *
      have Hx := Lib.hid hx; clear hx
      by_cases hlt : k < l.length
      · obtain ⟨ad, rfl, hc⟩ := hr.byte hlt
        have hy := xor_byte x l[k] hb
        have hz := xor_lt hb (byte_lt l[k])
        go_wp2_with (go_at_call 66; refine (step_any _ hz _).mono ?_; rintro e w' ⟨rfl, rfl⟩)
        exact ⟨⟨k + 1, by omega, by go_num, by rw [take_snoc l k hlt, regs_snoc, Hx.out]⟩, by simp [intOf]; omega⟩
      · have hz := xorf_u32 x hb
        go_wp2
        go_ret
        have e8 : k = l.length := by omega
        exact ⟨ret_int (by rw [more, He.out, ← Hx.out, e8, List.take_length]), Below.refl _ _⟩
  · have hd : decide ((l.length : Int) < 32) = false := by simp; omega
    go_enter Try.func59, Try.ntmps59
    go_wp2_with (first
      | (go_at_call 67; refine (table_any _).mono ?_; rintro e w1 ⟨rfl, hb1⟩)
      | (refine wpList_store_row rfl _ (.tmp 8) (.tmp 30) rfl _ (tabA 256) rfl rfl _ _ (heap_alloc_new w1 _) (by rw [tabA_size]; kernel_rfl) (by rw [tabA_size]; kernel_rfl) (tabA_one _) ?_))
    clear hx
    have hB : Below w.heap.size w ((w1.alloc (Obj.cells Try.zeroCells110 110)).setRow w1.heap.size (tabA 256)) :=
      (hb1.alloc hb1.size _).trans ⟨rfl, rfl, rfl, by simp, fun j hj => setRow_other _ _ j _ (by have := hb1.size; omega)⟩
    have hR := hr.keep hB
    have hT : ∀ j : Nat, j < 256 → ((w1.alloc (Obj.cells Try.zeroCells110 110)).setRow w1.heap.size (tabA 256)).cell? ⟨w1.heap.size, j, none⟩ = some (.int .u32 (stepK 8 j : Nat)) := fun j hj => by
      rw [cell_of_row _ _ j _ _ _ (setRow_heap _ _ _ _ _ _ (heap_alloc_new w1 _)), tabA_get 256 j hj, if_pos hj]
    generalize ((w1.alloc (Obj.cells Try.zeroCells110 110)).setRow w1.heap.size (tabA 256)) = W at *
    go_loop [5, 10, 33] (fun c _ i => ∃ k : Nat, k ≤ l.length ∧ i = .int .i64 k ∧ c = .int .u32 (regs t (l.take k) : Nat)) (fun _ _ i => l.length - (intOf i).toNat)
    case atStart => exact ⟨0, by omega, rfl, rfl⟩
    case round =>
      obtain ⟨k, hk, rfl, rfl⟩ := hrel
      have hb := regs_lt (l.take k) hb0
      generalize hx : regs t (l.take k) = x at *
      have Hx := Lib.hid hx; clear hx
      by_cases hlt : k < l.length
      · obtain ⟨ad, rfl, hc⟩ := hR.byte hlt
        have hy := more_byte x l[k]
        have hq := more_idx x l[k]
        have hcell := hT _ hq
        have hst := more_step x l[k] hb
        have Hst := Lib.hid hst
        clear hT hst
        go_wp2
        exact ⟨⟨k + 1, by omega, by go_num, by rw [take_snoc l k hlt, regs_snoc, Hx.out]; exact val_int Hst.out⟩, by simp [intOf]; omega⟩
      · have hz := xorf_u32 x hb
        go_wp2
        go_ret
        have e8 : k = l.length := by omega
        exact ⟨ret_int (by rw [more, He.out, ← Hx.out, e8, List.take_length]), hB⟩

set_option maxHeartbeats 400000 in
theorem csum_any (l : List UInt8) (A : Option Addr) (cp : Nat) (w : World) (hr : Rd w A (bv l)) (hl : l.length ≤ 9223372036854775807) :
    Calls Try.prog 47 #[.slice A l.length cp] w fun e w' => e = .returned (.int .u32 (csum l : Nat)) ∧ Below w.heap.size w w' := by
  go_enter Try.func47, Try.ntmps47
  go_wp2_with (go_at_call 59; refine (cmore_any 0 (by omega) _ _ _ _ hr hl).mono ?_; rintro e w' ⟨rfl, hb⟩)
  go_ret
  exact ⟨rfl, hb⟩
set_option maxHeartbeats 400000 in
theorem rsum_any (l : List UInt8) (A : Option Addr) (cp : Nat) (w : World) (hr : Rd w A (bv l)) (hl : l.length ≤ 9223372036854775807) :
    Calls Try.prog 49 #[.slice A l.length cp] w fun e w' => e = .returned (.int .u32 (csum l : Nat)) ∧ w = w' := by
  go_enter Try.func49, Try.ntmps49
  go_wp2_with (go_at_call 60; refine (rmore_any 0 (by omega) _ _ _ _ hr hl).mono ?_; rintro e w' ⟨rfl, rfl⟩)
  go_ret
  exact ⟨rfl, rfl⟩
theorem csum_n (l : List UInt8) (n : Nat) (hn : l.length = n) (A : Option Addr) (cp : Nat) (w : World) (hr : Rd w A (bv l)) (hl : n ≤ 9223372036854775807) :
    Calls Try.prog 47 #[.slice A n cp] w fun e w' => e = .returned (.int .u32 (csum l : Nat)) ∧ Below w.heap.size w w' := by
  subst hn; exact csum_any l A cp w hr hl
theorem rsum_n (l : List UInt8) (n : Nat) (hn : l.length = n) (A : Option Addr) (cp : Nat) (w : World) (hr : Rd w A (bv l)) (hl : n ≤ 9223372036854775807) :
    Calls Try.prog 49 #[.slice A n cp] w fun e w' => e = .returned (.int .u32 (csum l : Nat)) ∧ w = w' := by
  subst hn; exact rsum_any l A cp w hr hl
end Go.Proofs.Ytdfabjkffjacoaa
