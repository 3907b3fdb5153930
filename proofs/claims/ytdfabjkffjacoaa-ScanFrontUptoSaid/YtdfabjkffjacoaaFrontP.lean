/- Plain laws: the scan of frames in a row, bytes behind them, and of a cut of them. -/
import Derived.Test.YtdfabjkffjacoaaScanP
namespace Go.Proofs.Ytdfabjkffjacoaa
open Go.RowKit

/-- where the first j frames end -/
def endAt (seed base : Nat) (ls : List (List UInt8)) (j : Nat) : Nat := (chainB seed base (ls.take j)).length
theorem front_scan (seed base : Nat) (ls : List (List UInt8)) (rest : List UInt8) (h1 : 1 ≤ base) (h2 : base + ls.length ≤ 9223372036854775807) (h3 : ∀ d ∈ ls, d.length ≤ 4096) :
    scanI (chainB seed base ls ++ rest) base seed = (recsAt 0 base ls ++ (scanL (chainB seed base ls ++ rest) ((chainB seed base ls ++ rest).length + 1) ⟨ls.length, (chainB seed base ls).length, base + ls.length, chainS seed base ls⟩).1,
      (scanL (chainB seed base ls ++ rest) ((chainB seed base ls ++ rest).length + 1) ⟨ls.length, (chainB seed base ls).length, base + ls.length, chainS seed base ls⟩).2) := by
  have h := scan_chain (b := chainB seed base ls ++ rest) ls [] rest ⟨0, 0, base, seed⟩ ((chainB seed base ls ++ rest).length + 1) rfl rfl h1 h2 h3
  have hf := scanL_fuel (chainB seed base ls ++ rest) ((chainB seed base ls ++ rest).length + 1) ((chainB seed base ls ++ rest).length + 1 + ls.length) ⟨0, 0, base, seed⟩ (by simp only; omega) (by omega)
  unfold scanI
  rw [if_neg (by omega), show (base : Int).toNat = base from rfl, ← hf, h]
  simp only [Nat.zero_add]
theorem front_o (seed base : Nat) (ls : List (List UInt8)) (rest : List UInt8) (h1 : 1 ≤ base) (h2 : base + ls.length ≤ 9223372036854775807) (h3 : ∀ d ∈ ls, d.length ≤ 4096) :
    ∃ recs cn fi sd y, scanI (chainB seed base ls ++ rest) base seed = (recs, ⟨cn, fi, base + cn, sd⟩, y) ∧ ls.length ≤ cn ∧ (chainB seed base ls).length ≤ fi ∧ fi ≤ (chainB seed base ls ++ rest).length ∧ cn * 16 ≤ (chainB seed base ls ++ rest).length := by
  have hl := scanI_len (chainB seed base ls ++ rest) base seed
  rw [front_scan seed base ls rest h1 h2 h3] at hl ⊢
  obtain ⟨_, e2, e3, e4, e5⟩ := scan_end (chainB seed base ls ++ rest) ((chainB seed base ls ++ rest).length + 1) ⟨ls.length, (chainB seed base ls).length, base + ls.length, chainS seed base ls⟩ (by simp only; omega) (by simp)
  generalize scanL (chainB seed base ls ++ rest) ((chainB seed base ls ++ rest).length + 1) ⟨ls.length, (chainB seed base ls).length, base + ls.length, chainS seed base ls⟩ = r at *
  obtain ⟨r1, ⟨cn, fi, nx, sd⟩, y⟩ := r
  simp only at e2 e3 e4 e5 hl
  rw [List.length_append, recsAt_len] at hl
  obtain rfl : nx = base + cn := by omega
  exact ⟨_, cn, fi, sd, y, rfl, by omega, e2, e3, by omega⟩
theorem front_p (seed base : Nat) (ls : List (List UInt8)) (h1 : 1 ≤ base) (h2 : base + ls.length ≤ 9223372036854775807) (h3 : ∀ d ∈ ls, d.length ≤ 4096) :
    scanI (chainB seed base ls) base seed = (recsAt 0 base ls, ⟨ls.length, (chainB seed base ls).length, base + ls.length, chainS seed base ls⟩, 1) := by
  have h := front_scan seed base ls [] h1 h2 h3
  rw [List.append_nil] at h
  rw [h]
  have e : scan1 (chainB seed base ls) ⟨ls.length, (chainB seed base ls).length, base + ls.length, chainS seed base ls⟩ = .inr 1 := by rw [scan1, if_pos (Nat.le_refl _)]
  simp [scanL, e]
theorem endAt_succ (seed base : Nat) (ls : List (List UInt8)) (j : Nat) (h : j < ls.length) : endAt seed base ls (j + 1) = endAt seed base ls j + (16 + ls[j].length) := by
  unfold endAt
  rw [take_snoc ls j h, chainB_snoc, List.length_append, frameB_length]
theorem endAt_le (seed base : Nat) (ls : List (List UInt8)) (j : Nat) : endAt seed base ls j ≤ (chainB seed base ls).length := by
  unfold endAt
  have e := chainB_app seed base (ls.take j) (ls.drop j)
  rw [List.take_append_drop] at e
  rw [e, List.length_append]
  omega
theorem front_q (seed base : Nat) (ls : List (List UInt8)) (cut n0 : Nat) (h1 : 1 ≤ base) (h2 : base + ls.length ≤ 9223372036854775807) (h3 : ∀ d ∈ ls, d.length ≤ 4096) (h4 : n0 ≤ ls.length) (h5 : endAt seed base ls n0 ≤ cut)
    (h6 : n0 < ls.length → cut < endAt seed base ls (n0 + 1)) (h7 : cut ≤ (chainB seed base ls).length) :
    ∃ recs nx sd y, scanI ((chainB seed base ls).take cut) base seed = (recs, ⟨n0, endAt seed base ls n0, nx, sd⟩, y) ∧ y ≤ 6 ∧ (y = 1 ↔ cut = endAt seed base ls n0) := by
  have hn0 : (ls.take n0).length = n0 := List.length_take_of_le h4
  have ht3 : ∀ d ∈ ls.take n0, d.length ≤ 4096 := fun d hd => h3 d (List.mem_of_mem_take hd)
  by_cases hlt : n0 < ls.length
  · have hsp := chain_split seed base ls n0 hlt
    have hd := h3 ls[n0] (List.getElem_mem _)
    have hes := endAt_succ seed base ls n0 hlt
    have h6' := h6 hlt
    have hcut : (chainB seed base ls).take cut = chainB seed base (ls.take n0) ++ (frameB (chainS seed base (ls.take n0)) (base + n0) ls[n0]).take (cut - endAt seed base ls n0) := by
      rw [hsp, List.take_append, List.take_of_length_le h5]
      congr 1
      rw [List.take_append_of_le_length (by rw [frameB_length]; unfold endAt at *; omega)]
      rfl
    rw [hcut, front_scan seed base (ls.take n0) _ h1 (by omega) ht3]
    rw [hn0]
    by_cases h0 : cut = endAt seed base ls n0
    · have e : scan1 (chainB seed base (ls.take n0) ++ (frameB (chainS seed base (ls.take n0)) (base + n0) ls[n0]).take (cut - endAt seed base ls n0)) ⟨n0, (chainB seed base (ls.take n0)).length, base + n0, chainS seed base (ls.take n0)⟩ = .inr 1 := by
        rw [scan1, if_pos (by rw [show cut - endAt seed base ls n0 = 0 from by omega]; simp)]
      simp only [scanL, e]
      exact ⟨_, base + n0, chainS seed base (ls.take n0), 1, rfl, by omega, by simp [h0]⟩
    · obtain ⟨y, hy, hy1⟩ := scan1_short (b := chainB seed base (ls.take n0) ++ (frameB (chainS seed base (ls.take n0)) (base + n0) ls[n0]).take (cut - endAt seed base ls n0)) (pre := chainB seed base (ls.take n0)) (s := ⟨n0, (chainB seed base (ls.take n0)).length, base + n0, chainS seed base (ls.take n0)⟩) (d := ls[n0]) (L := base + n0) (m := cut - endAt seed base ls n0) rfl rfl hd (by omega) (by omega)
      simp only [scanL, hy]
      exact ⟨_, base + n0, chainS seed base (ls.take n0), y, rfl, (scan1_why hy).2, by simp [h0, hy1]⟩
  · obtain rfl : n0 = ls.length := by omega
    have hE : endAt seed base ls ls.length = (chainB seed base ls).length := by unfold endAt; rw [List.take_length]
    rw [hE] at h5 ⊢
    obtain rfl : cut = (chainB seed base ls).length := by omega
    rw [List.take_length, front_p seed base ls h1 h2 h3]
    exact ⟨_, _, _, 1, rfl, by omega, by simp⟩
end Go.Proofs.Ytdfabjkffjacoaa
