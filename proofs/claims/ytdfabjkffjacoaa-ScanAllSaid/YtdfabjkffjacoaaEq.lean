/- Walks: the laws' own small functions: Eq. -/
import Derived.Test.YtdfabjkffjacoaaRHead
import Derived.Test.YtdfabjkffjacoaaOnly
namespace Go.Proofs.Ytdfabjkffjacoaa
open Go.RowKit

def eqB (l l' : List UInt8) : Bool := decide (l = l')
def EqP (w : World) (b : Bool) (e : Ending) (w' : World) : Prop := e = .returned (.bool b) ∧ ∃ k, w' = w.drewN k

theorem eqB_take {l l' : List UInt8} {n : Nat} (h1 : l.length = n) (h2 : l'.length = n) (h : l.take n = l'.take n) : eqB l l' = true := by
  rw [List.take_of_length_le (by omega), List.take_of_length_le (by omega)] at h
  simp [eqB, h]
theorem eqB_ne {l l' : List UInt8} {k : Nat} (h1 : k < l.length) (h2 : k < l'.length) (h : l[k] ≠ l'[k]) : eqB l l' = false := by
  simp only [eqB, decide_eq_false_iff_not]
  rintro rfl
  exact h rfl
theorem eqB_len {l l' : List UInt8} (h : l.length ≠ l'.length) : eqB l l' = false := by
  simp only [eqB, decide_eq_false_iff_not]
  rintro rfl
  exact h rfl

set_option maxHeartbeats 400000 in
theorem eq_any (l l' : List UInt8) (n n' : Nat) (hl : l.length = n) (hl' : l'.length = n') (hn : n ≤ 9223372036854775807) (A A' : Option Addr) (c c' : Nat) (w : World) (hr : Rd w A (bv l)) (hr' : Rd w A' (bv l')) :
    Calls Try.prog 17 #[.slice A n c, .slice A' n' c'] w (EqP w (eqB l l')) := by
  by_cases hnn : n = n'
  · subst hnn
    go_enter Try.func17, Try.ntmps17
    go_wp2
    go_loopw [5] (fun i wr => ∃ k q : Nat, k ≤ n ∧ i = .int .i64 k ∧ l.take k = l'.take k ∧ wr = w.drewN q) (fun i _ => n - (intOf i).toNat)
    case atStart => exact ⟨0, 0, by omega, rfl, rfl, rfl⟩
    case round =>
      obtain ⟨k, q, hk, rfl, hp, rfl⟩ := hrel
      have Hp := Lib.hid hp
      clear hp
      by_cases hlt : k < n
      · obtain ⟨ad, rfl, hc⟩ := hr.byte (k := k) (by omega)
        obtain ⟨ad', rfl, hc'⟩ := hr'.byte (k := k) (by omega)
        have hx := (l[k]'(by omega)).toNat_lt
        have hk0 : (0 : Int) ≤ (k : Int) := by omega
        have hk1 : (k : Int) < (n : Int) := by omega
        by_cases he : l[k]'(by omega) = l'[k]'(by omega)
        · have hne : (((l[k]'(by omega)).toNat : Int) != ((l'[k]'(by omega)).toNat : Int)) = false := by rw [he]; simp
          have He := Lib.hid he
          clear he
          go_wp2
          go_quiet (fail)
          go_wp2
          exact ⟨⟨k + 1, _, by omega, by go_num, by rw [take_snoc l k (by omega), take_snoc l' k (by omega), Hp.out, He.out], rfl⟩, by simp [intOf]; omega⟩
        · have hne : (((l[k]'(by omega)).toNat : Int) != ((l'[k]'(by omega)).toNat : Int)) = true := by
            rw [bne_iff_ne]
            intro h
            exact he (UInt8.toNat_inj.1 (by omega))
          have hB : Hid (eqB l l' = false) := eqB_ne (by omega) (by omega) he
          clear he
          go_wp2
          go_quiet (fail)
          go_wp2
          go_ret
          exact ⟨by rw [hB.out]; rfl, q + nq, by rw [World.drewN_drewN]⟩
      · go_wp2
        go_ret
        have e8 : k = n := by omega
        exact ⟨by rw [eqB_take hl hl' (by rw [← e8]; exact Hp.out)]; rfl, q, rfl⟩
  · have hB : Hid (eqB l l' = false) := eqB_len (by omega)
    have hne : ((n : Int) != (n' : Int)) = true := by rw [bne_iff_ne]; omega
    go_enter Try.func17, Try.ntmps17
    go_wp2
    go_ret
    exact ⟨by rw [hB.out]; rfl, 0, rfl⟩

def recB (a b : Int) (l l' : List UInt8) : Bool := decide (a = b) && eqB l l'
def EqRP (w : World) (b : Bool) (e : Ending) (w' : World) : Prop := e = .returned (.bool b) ∧ Below w.heap.size w w'

set_option maxHeartbeats 400000 in
theorem eqr_any (a b : Int) (l l' : List UInt8) (n n' : Nat) (hl : l.length = n) (hl' : l'.length = n') (hn : n ≤ 9223372036854775807) (A A' : Option Addr) (c c' : Nat) (w : World) (hr : Rd w A (bv l)) (hr' : Rd w A' (bv l')) :
    Calls Try.prog 23 #[.agg #[.int .i64 a, .slice A n c], .agg #[.int .i64 b, .slice A' n' c']] w (EqRP w (recB a b l l')) := by
  have hb0 : Below w.heap.size w ((w.alloc (Obj.cells #[.int .i64 a, .slice A n c] 34)).alloc (Obj.cells #[.int .i64 b, .slice A' n' c'] 34)) := ((Below.refl _ _).alloc (Nat.le_refl _) _).alloc (by simp) _
  have hr0 := hr.keep hb0
  have hr0' := hr'.keep hb0
  by_cases hab : a = b
  · subst hab
    have hE : Hid (recB a a l l' = eqB l l') := by simp [Hid, recB]
    have haa : (a == a) = true := by simp
    go_enter Try.func23, Try.ntmps23
    go_wp2_with fail
    refine (eq_any l l' n n' hl hl' hn A A' c c' _ hr0 hr0').mono ?_
    rintro e w1 ⟨rfl, q, rfl⟩
    go_wp2
    go_ret
    exact ⟨by rw [hE.out]; rfl, hb0.trans (drewN_below _ _ q)⟩
  · have hE : Hid (recB a b l l' = false) := by simp [Hid, recB, hab]
    have haa : (a == b) = false := by simpa using hab
    clear hab
    go_enter Try.func23, Try.ntmps23
    go_wp2
    go_ret
    exact ⟨by rw [hE.out]; rfl, hb0⟩
end Go.Proofs.Ytdfabjkffjacoaa
