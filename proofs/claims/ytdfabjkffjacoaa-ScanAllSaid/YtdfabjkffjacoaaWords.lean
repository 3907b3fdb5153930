/- Words: a slice that reads as a list of values; bytes as values; no program. -/
import Derived.WalkKit
import Derived.WalkSpells
import Derived.WalkLawsBesides
import Derived.Laws.BitsAllLaws
import Derived.Lib.Hide
import Derived.Test.YtdfabjkffjacoaaMath
namespace Go.Proofs.Ytdfabjkffjacoaa
open Go.RowKit

theorem ret_int {k : IntKind} {a b : Int} (h : a = b) : Ending.returned (.int k a) = .returned (.int k b) := by rw [h]
theorem val_int {k : IntKind} {a b : Int} (h : a = b) : Value.int k a = .int k b := by rw [h]

def bval (b : UInt8) : Value := .int .u8 (b.toNat : Int)
def bv (l : List UInt8) : List Value := l.map bval
theorem bv_length (l : List UInt8) : (bv l).length = l.length := by simp [bv]
theorem bv_get (l : List UInt8) (j : Nat) : (bv l)[j]? = l[j]?.map bval := by simp [bv]
theorem bv_append (a b : List UInt8) : bv (a ++ b) = bv a ++ bv b := by simp [bv]

/-- the slice's cells -/
def Rd (w : World) (A : Option Addr) (l : List Value) : Prop := ∀ j u, l[j]? = some u → ∃ ad, A = some ad ∧ w.cell? (ad.add j) = some u

theorem block_of_add (a : Addr) (n : Nat) : (a.add n).block = a.block := by unfold Addr.add; split <;> rfl
theorem add_of_add (a : Addr) (i j : Nat) : (a.add i).add j = a.add (i + j) := by
  unfold Addr.add
  by_cases hi : i = 0 <;> by_cases hj : j = 0 <;> simp [hi, hj, Nat.add_assoc]
theorem addr0 (g k : Nat) : (⟨g, 0, none⟩ : Addr).add k = ⟨g, k, none⟩ := by unfold Addr.add; split <;> simp_all
theorem add_zero (a : Addr) : a.add 0 = a := by simp [Addr.add]

section
variable {w w' : World} {A : Option Addr} {l : List Value}
theorem Rd.nil (w : World) (A : Option Addr) : Rd w A [] := fun j u h => by simp at h
theorem Rd.cells (h : ∀ j u, l[j]? = some u → ∃ ad, A = some ad ∧ w'.cell? (ad.add j) = w.cell? (ad.add j)) (r : Rd w A l) : Rd w' A l := fun j u hj => by
  obtain ⟨ad, hA, hc⟩ := r j u hj
  obtain ⟨ad', hA', hc'⟩ := h j u hj
  rw [hA] at hA'; cases hA'
  exact ⟨ad, hA, hc'.trans hc⟩
theorem Rd.below {B : Nat} (r : Rd w A l) (hb : Below B w w') (hB : ∀ ad, A = some ad → ad.block < B) : Rd w' A l := fun j u hj => by
  obtain ⟨ad, hA, hc⟩ := r j u hj
  exact ⟨ad, hA, (hb.cell (by rw [block_of_add]; exact hB ad hA)).trans hc⟩
theorem Rd.lt (r : Rd w A l) (h : l ≠ []) : ∀ ad, A = some ad → ad.block < w.heap.size := fun ad hA => by
  cases l with
  | nil => exact absurd rfl h
  | cons u l =>
    obtain ⟨ad', hA', hc⟩ := r 0 u (by simp)
    rw [hA] at hA'; cases hA'
    have := World.block_lt_of_cell? w _ hc
    rwa [block_of_add] at this
/-- what was there is there -/
theorem Rd.keep (r : Rd w A l) (hb : Below w.heap.size w w') : Rd w' A l := by
  by_cases h : l = []
  · subst h; exact Rd.nil _ _
  · exact r.below hb (r.lt h)
theorem Rd.at_ {k : Nat} (r : Rd w A l) (hk : k < l.length) : ∃ ad, A = some ad ∧ w.cell? (ad.add k) = some l[k] := by
  obtain ⟨ad, hA, hc⟩ := r k l[k] (List.getElem?_eq_getElem hk)
  exact ⟨ad, hA, hc⟩
theorem Rd.drop (r : Rd w A l) {k : Nat} : Rd w (A.map (·.add k)) (l.drop k) := fun j u hj => by
  rw [List.getElem?_drop] at hj
  obtain ⟨ad, hA, hc⟩ := r _ u hj
  exact ⟨ad.add k, by rw [hA]; rfl, by rw [add_of_add]; exact hc⟩
theorem Rd.take (r : Rd w A l) {k : Nat} : Rd w A (l.take k) := fun j u hj => by
  rw [List.getElem?_take] at hj
  split at hj
  · exact r j u hj
  · cases hj
end
theorem Rd.byte {w : World} {A : Option Addr} {l : List UInt8} {k : Nat} (r : Rd w A (bv l)) (hk : k < l.length) : ∃ ad, A = some ad ∧ w.cell? (ad.add k) = some (.int .u8 (l[k].toNat : Int)) := by
  obtain ⟨ad, hA, hc⟩ := r.at_ (k := k) (by rw [bv_length]; exact hk)
  exact ⟨ad, hA, by rw [hc]; simp [bv, bval]⟩
theorem take_snoc {α : Type} (l : List α) (k : Nat) (h : k < l.length) : l.take (k + 1) = l.take k ++ [l[k]] := by
  rw [List.take_succ_eq_append_getElem h]

theorem byte_of_shift (n k : Nat) : Value.int .u8 ((n : Int) / 2 ^ (8 * k) % 256) = bval (UInt8.ofNat (n / 256 ^ k % 256)) := by
  have h : (2 : Nat) ^ (8 * k) = 256 ^ k := by rw [Nat.pow_mul]
  have e : ((n : Int) / 2 ^ (8 * k) % 256) = ((n / 256 ^ k % 256 : Nat) : Int) := by rw [← h]; simp
  rw [e]; simp [bval]
theorem and1_u32 (x : Nat) (hx : x < 4294967296) : bits BinOp.and IntKind.u32 (x : Int) 1 = ((x % 2 : Nat) : Int) := by
  have := u32_and_nat x 1 hx (by omega)
  rw [Nat.and_one_is_mod] at this
  exact this
theorem xor_u32 (x y : Nat) (hx : x < 4294967296) (hy : y < 4294967296) : bits BinOp.xor IntKind.u32 (x : Int) (y : Int) = ((x ^^^ y : Nat) : Int) := u32_xor_nat x y hx hy
theorem xorf_u32 (x : Nat) (hx : x < 4294967296) : bits BinOp.xor IntKind.u32 (x : Int) 4294967295 = ((x ^^^ 4294967295 : Nat) : Int) := u32_xor_nat x 4294967295 hx (by omega)
theorem xor_byte (x : Nat) (b : UInt8) (hx : x < 4294967296) : bits BinOp.xor IntKind.u32 (x : Int) ((b.toNat : Int) % 4294967296) = ((x ^^^ b.toNat : Nat) : Int) := by
  have hb := byte_lt b
  rw [← xor_u32 x b.toNat hx hb]
  congr 1
  omega
theorem or_u32 (x y : Nat) (hx : x < 4294967296) (hy : y < 4294967296) : bits BinOp.or IntKind.u32 (x : Int) (y : Int) = ((x ||| y : Nat) : Int) := u32_or_nat x y hx hy
theorem mask_or (c : Nat) (hc : c < 4294967296) : (bits BinOp.or IntKind.u32 ((c : Int) / 32768) ((c : Int) * 131072 % 4294967296) + 2726488792) % 4294967296 = (mask c : Int) := by
  have h := or_u32 (c / 32768) (c * 131072 % 4294967296) (by omega) (by omega)
  have e : bits BinOp.or IntKind.u32 ((c : Int) / 32768) ((c : Int) * 131072 % 4294967296) = ((c / 32768 ||| c * 131072 % 4294967296 : Nat) : Int) := by rw [← h]; rfl
  rw [e]
  simp [mask]
theorem mask_ro (c : Nat) (hc : c < 4294967296) : (bits BinOp.or IntKind.u32 ((c : Int) * 131072 % 4294967296) ((c : Int) / 32768) + 2726488792) % 4294967296 = (mask c : Int) := by
  have h := or_u32 (c * 131072 % 4294967296) (c / 32768) (by omega) (by omega)
  have e : bits BinOp.or IntKind.u32 ((c : Int) * 131072 % 4294967296) ((c : Int) / 32768) = ((c / 32768 ||| c * 131072 % 4294967296 : Nat) : Int) := by rw [Nat.or_comm, ← h]; rfl
  rw [e]
  simp [mask]
end Go.Proofs.Ytdfabjkffjacoaa
