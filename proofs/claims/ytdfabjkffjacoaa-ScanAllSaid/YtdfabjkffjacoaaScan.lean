/- The scan, plainly; walks: why, twice. -/
import Derived.Test.YtdfabjkffjacoaaBackW
namespace Go.Proofs.Ytdfabjkffjacoaa
open Go.RowKit

/-- why a frame could not be read -/
def whyN (e : Nat) : Nat := if e = 2 then 2 else if e = 3 then 3 else if e = 4 then 4 else 5

theorem why_any (e : Nat) (w : World) : Calls Try.prog 62 #[.int .i64 e] w fun e' w' => e' = .returned (.int .i64 (whyN e : Nat)) ∧ w' = w := by
  by_cases h2 : e = 2
  · subst h2
    go_enter Try.func62, Try.ntmps62
    go_wp2
    go_ret
    exact ⟨rfl, rfl⟩
  · have b2 : ((e : Int) == 2) = false := by simp; omega
    by_cases h3 : e = 3
    · subst h3
      go_enter Try.func62, Try.ntmps62
      go_wp2
      go_ret
      exact ⟨rfl, rfl⟩
    · have b3 : ((e : Int) == 3) = false := by simp; omega
      by_cases h4 : e = 4
      · subst h4
        go_enter Try.func62, Try.ntmps62
        go_wp2
        go_ret
        exact ⟨rfl, rfl⟩
      · have b4 : ((e : Int) == 4) = false := by simp; omega
        have hw : Hid (whyN e = 5) := by simp [Hid, whyN, h2, h3, h4]
        clear h2 h3 h4
        go_enter Try.func62, Try.ntmps62
        go_wp2
        go_ret
        exact ⟨by rw [hw.out]; rfl, rfl⟩
theorem rwhy_any (e : Nat) (w : World) : Calls Try.prog 50 #[.int .i64 e] w fun e' w' => e' = .returned (.int .i64 (whyN e : Nat)) ∧ w' = w := by
  by_cases h2 : e = 2
  · subst h2
    go_enter Try.func50, Try.ntmps50
    go_wp2
    go_ret
    exact ⟨rfl, rfl⟩
  · have b2 : ((e : Int) == 2) = false := by simp; omega
    by_cases h3 : e = 3
    · subst h3
      go_enter Try.func50, Try.ntmps50
      go_wp2
      go_ret
      exact ⟨rfl, rfl⟩
    · have b3 : ((e : Int) == 3) = false := by simp; omega
      by_cases h4 : e = 4
      · subst h4
        go_enter Try.func50, Try.ntmps50
        go_wp2
        go_ret
        exact ⟨rfl, rfl⟩
      · have b4 : ((e : Int) == 4) = false := by simp; omega
        have hw : Hid (whyN e = 5) := by simp [Hid, whyN, h2, h3, h4]
        clear h2 h3 h4
        go_enter Try.func50, Try.ntmps50
        go_wp2
        go_ret
        exact ⟨by rw [hw.out]; rfl, rfl⟩

/-- the state of a scan: count, end, next, seed -/
structure Sc where
  cnt : Nat
  fin : Nat
  nxt : Nat
  sd : Nat
/-- one frame more: its record, and the state behind it; or why there is none -/
def scan1 (b : List UInt8) (s : Sc) : (Nat × List UInt8 × Sc) ⊕ Nat :=
  if b.length ≤ s.fin then .inr 1
  else match fread s.sd (b.drop s.fin) with
    | (L, d, n, t, 0) => if L = s.nxt then .inl (L, d, ⟨s.cnt + 1, s.fin + n, s.nxt + 1, t⟩) else .inr 6
    | (_, _, _, _, e + 1) => .inr (whyN (e + 1))
/-- a scan from a state on: places and records, the state at the end, why it ended -/
def scanL (b : List UInt8) : Nat → Sc → List (Nat × Nat × List UInt8) × Sc × Nat
  | 0, s => ([], s, 1)
  | k + 1, s => match scan1 b s with
    | .inr y => ([], s, y)
    | .inl (L, d, s') => ((s.fin, L, d) :: (scanL b k s').1, (scanL b k s').2)

theorem scan1_inl {b : List UInt8} {s s' : Sc} {L : Nat} {d : List UInt8} (h : scan1 b s = .inl (L, d, s')) :
    s.fin < b.length ∧ fread s.sd (b.drop s.fin) = (L, d, 16 + d.length, fsum s.sd L d, 0) ∧ L = s.nxt ∧ 1 ≤ L ∧ L ≤ 9223372036854775806 ∧ d.length ≤ 4096 ∧ s.fin + 16 + d.length ≤ b.length ∧
      s' = ⟨s.cnt + 1, s.fin + (16 + d.length), s.nxt + 1, fsum s.sd L d⟩ ∧ frameB s.sd L d = (b.drop s.fin).take (16 + d.length) := by
  unfold scan1 at h
  by_cases hl : b.length ≤ s.fin
  · rw [if_pos hl] at h; cases h
  · rw [if_neg hl] at h
    rcases fread_cases s.sd (b.drop s.fin) with ⟨k, hk, _, hf⟩ | ⟨L', d', N, hf, h1, h2, h3, h4, h5, h6⟩
    · obtain ⟨k', rfl⟩ : ∃ k', k = k' + 1 := ⟨k - 1, by omega⟩
      rw [hf] at h
      cases h
    · rw [hf] at h
      simp only at h
      split at h
      · rename_i hL
        cases h
        subst h4
        refine ⟨by omega, hf, hL, h1, h2, h3, ?_, rfl, h6⟩
        rw [List.length_drop] at h5
        omega
      · cases h
/-- fuel: each frame has 16 bytes and more -/
theorem scanL_fuel (b : List UInt8) : ∀ (k j : Nat) (s : Sc), b.length < k + s.fin → k ≤ j → scanL b j s = scanL b k s
  | 0, j, s, h, _ => by
    cases j with
    | zero => rfl
    | succ j =>
      have e : scan1 b s = .inr 1 := by rw [scan1, if_pos (by omega)]
      simp only [scanL, e]
  | k + 1, j, s, h, hj => by
    obtain ⟨j, rfl⟩ : ∃ j', j = j' + 1 := ⟨j - 1, by omega⟩
    simp only [scanL]
    cases hs : scan1 b s with
    | inr y => rfl
    | inl x =>
      obtain ⟨L, d, s'⟩ := x
      obtain ⟨_, _, _, _, _, _, _, h8, _⟩ := scan1_inl hs
      have h9 : s'.fin = s.fin + (16 + d.length) := by rw [h8]
      simp only
      rw [scanL_fuel b k j s' (by omega) (by omega)]
end Go.Proofs.Ytdfabjkffjacoaa
