/- Plain laws on scans: frames in a row; what was told, alone; from where it ended. -/
import Derived.Test.YtdfabjkffjacoaaFind
import Derived.Test.YtdfabjkffjacoaaChainW
namespace Go.Proofs.Ytdfabjkffjacoaa
open Go.RowKit

/-- the records of frames in a row -/
def recsAt (fin nxt : Nat) : List (List UInt8) → List (Nat × Nat × List UInt8)
  | [] => []
  | d :: ds => (fin, nxt, d) :: recsAt (fin + (16 + d.length)) (nxt + 1) ds
theorem recsAt_len (ds : List (List UInt8)) : ∀ fin nxt, (recsAt fin nxt ds).length = ds.length := by
  induction ds with
  | nil => intro _ _; rfl
  | cons d ds ih => intro fin nxt; simp [recsAt, ih]
theorem scan1_frame {b pre rest : List UInt8} {s : Sc} {d : List UInt8} (hb : b = pre ++ (frameB s.sd s.nxt d ++ rest)) (hp : pre.length = s.fin) (h1 : 1 ≤ s.nxt) (h2 : s.nxt ≤ 9223372036854775806) (h3 : d.length ≤ 4096) :
    scan1 b s = .inl (s.nxt, d, ⟨s.cnt + 1, s.fin + (16 + d.length), s.nxt + 1, fsum s.sd s.nxt d⟩) := by
  have hd : b.drop s.fin = frameB s.sd s.nxt d ++ rest := by rw [hb, ← hp, List.drop_left]
  have hl : s.fin < b.length := by rw [hb, List.length_append, List.length_append, frameB_length]; omega
  rw [scan1, if_neg (by omega), hd, fread_fwrite _ _ _ _ h1 h2 h3]
  simp
theorem scan_chain {b : List UInt8} : ∀ (ds : List (List UInt8)) (pre rest : List UInt8) (s : Sc) (k : Nat), b = pre ++ (chainB s.sd s.nxt ds ++ rest) → pre.length = s.fin → 1 ≤ s.nxt → s.nxt + ds.length ≤ 9223372036854775807 → (∀ d ∈ ds, d.length ≤ 4096) →
    scanL b (k + ds.length) s = (recsAt s.fin s.nxt ds ++ (scanL b k ⟨s.cnt + ds.length, s.fin + (chainB s.sd s.nxt ds).length, s.nxt + ds.length, chainS s.sd s.nxt ds⟩).1, (scanL b k ⟨s.cnt + ds.length, s.fin + (chainB s.sd s.nxt ds).length, s.nxt + ds.length, chainS s.sd s.nxt ds⟩).2)
  | [], pre, rest, s, k, _, _, _, _, _ => by simp [recsAt, chainB, chainS]
  | d :: ds, pre, rest, s, k, hb, hp, h1, h2, h3 => by
    have h3d := h3 d (by simp)
    simp only [List.length_cons] at h2
    have e1 := scan1_frame (b := b) (rest := chainB (fsum s.sd s.nxt d) (s.nxt + 1) ds ++ rest) (d := d) (by rw [hb]; simp [chainB]) hp h1 (by omega) h3d
    have hrec := scan_chain (b := b) ds (pre ++ frameB s.sd s.nxt d) rest ⟨s.cnt + 1, s.fin + (16 + d.length), s.nxt + 1, fsum s.sd s.nxt d⟩ k (by rw [hb]; simp [chainB]) (by rw [List.length_append, frameB_length, hp]) (by simp only; omega) (by simp only; omega) (fun x hx => h3 x (by simp [hx]))
    rw [show k + (d :: ds).length = (k + ds.length) + 1 from by simp; omega]
    simp only [scanL, e1, hrec, recsAt, chainB, chainS, List.cons_append, List.length_cons, List.length_append, frameB_length]
    have e2 : s.cnt + 1 + ds.length = s.cnt + (ds.length + 1) := by omega
    have e3 : s.fin + (16 + d.length) + (chainB (fsum s.sd s.nxt d) (s.nxt + 1) ds).length = s.fin + (16 + d.length + (chainB (fsum s.sd s.nxt d) (s.nxt + 1) ds).length) := by omega
    have e4 : s.nxt + 1 + ds.length = s.nxt + (ds.length + 1) := by omega
    rw [e2, e3, e4]
/-- the end of a scan -/
theorem scan_end (b : List UInt8) : ∀ (k : Nat) (s : Sc), b.length < k + s.fin → s.fin ≤ b.length → scan1 b (scanL b k s).2.1 = .inr (scanL b k s).2.2 ∧ s.fin ≤ (scanL b k s).2.1.fin ∧ (scanL b k s).2.1.fin ≤ b.length ∧ (scanL b k s).2.1.cnt = s.cnt + (scanL b k s).1.length ∧ (scanL b k s).2.1.nxt = s.nxt + (scanL b k s).1.length
  | 0, s, h, h' => by omega
  | k + 1, s, h, h' => by
    simp only [scanL]
    cases hs : scan1 b s with
    | inr y => exact ⟨hs, Nat.le_refl _, h', by simp, by simp⟩
    | inl x =>
      obtain ⟨L, d, s'⟩ := x
      obtain ⟨i1, _, _, _, _, _, i7, i8, _⟩ := scan1_inl hs
      have e : s'.fin = s.fin + (16 + d.length) := by rw [i8]
      obtain ⟨j1, j2, j3, j4, j5⟩ := scan_end b k s' (by omega) (by omega)
      refine ⟨j1, by simp only; omega, j3, ?_, ?_⟩
      · simp only [j4, List.length_cons]; rw [i8]; simp only; omega
      · simp only [j5, List.length_cons]; rw [i8]; simp only; omega
theorem scan_sd (b : List UInt8) : ∀ (k : Nat) (s : Sc), s.sd < 4294967296 → (scanL b k s).2.1.sd < 4294967296
  | 0, s, h => h
  | k + 1, s, h => by
    simp only [scanL]
    cases hs : scan1 b s with
    | inr y => exact h
    | inl x =>
      obtain ⟨L, d, s'⟩ := x
      obtain ⟨_, _, _, _, _, _, _, i8, _⟩ := scan1_inl hs
      exact scan_sd b k s' (by rw [i8]; exact fsum_lt _ _ _)
theorem scan_nxt (b : List UInt8) : ∀ (k : Nat) (s : Sc), 1 ≤ s.nxt → s.nxt ≤ 9223372036854775807 → 1 ≤ (scanL b k s).2.1.nxt ∧ (scanL b k s).2.1.nxt ≤ 9223372036854775807
  | 0, s, h, h' => ⟨h, h'⟩
  | k + 1, s, h, h' => by
    simp only [scanL]
    cases hs : scan1 b s with
    | inr y => exact ⟨h, h'⟩
    | inl x =>
      obtain ⟨L, d, s'⟩ := x
      obtain ⟨_, _, i3, i4, i5, _, _, i8, _⟩ := scan1_inl hs
      exact scan_nxt b k s' (by rw [i8]; simp only; omega) (by rw [i8]; simp only; omega)
/-- the front that was told, alone, is told again -/
theorem scan_take (b : List UInt8) : ∀ (k : Nat) (s : Sc) (E : Nat), (scanL b k s).2.1.fin = E → b.length < k + s.fin → s.fin ≤ b.length → (scanL (b.take E) k s).1 = (scanL b k s).1 ∧ (scanL (b.take E) k s).2.1 = (scanL b k s).2.1 ∧ (scanL (b.take E) k s).2.2 = 1
  | 0, s, E, _, h, h' => by omega
  | k + 1, s, E, hE, h, h' => by
    simp only [scanL] at hE ⊢
    cases hs : scan1 b s with
    | inr y =>
      rw [hs] at hE
      simp only at hE
      have e : scan1 (b.take E) s = .inr 1 := by rw [scan1, if_pos (by rw [List.length_take]; omega)]
      rw [e]
      exact ⟨rfl, rfl, rfl⟩
    | inl x =>
      obtain ⟨L, d, s'⟩ := x
      rw [hs] at hE
      simp only at hE
      obtain ⟨i1, i2, i3, i4, i5, i6, i7, i8, i9⟩ := scan1_inl hs
      have e : s'.fin = s.fin + (16 + d.length) := by rw [i8]
      obtain ⟨_, j2, j3, _, _⟩ := scan_end b k s' (by omega) (by omega)
      obtain ⟨k1, k2, k3⟩ := scan_take b k s' E hE (by omega) (by omega)
      subst i3
      have hb : b.take E = b.take s.fin ++ (frameB s.sd s.nxt d ++ ((b.drop (s.fin + (16 + d.length))).take (E - (s.fin + (16 + d.length))))) := by
        rw [i9, ← List.append_assoc]
        have h1 : b.take s.fin ++ (b.drop s.fin).take (16 + d.length) = b.take (s.fin + (16 + d.length)) := (List.take_add ..).symm
        rw [h1, ← List.take_add, show s.fin + (16 + d.length) + (E - (s.fin + (16 + d.length))) = E from by omega]
      have e1 := scan1_frame (b := b.take E) (pre := b.take s.fin) (rest := (b.drop (s.fin + (16 + d.length))).take (E - (s.fin + (16 + d.length)))) (d := d) hb (List.length_take_of_le h') i4 i5 i6
      rw [e1]
      simp only
      rw [← i8]
      exact ⟨by rw [k1], k2, k3⟩
/-- from where a scan ended -/
theorem scan_drop (b : List UInt8) (s : Sc) (y : Nat) (h : scan1 b s = .inr y) (hf : s.fin ≤ b.length) (k : Nat) : scanL (b.drop s.fin) (k + 1) ⟨0, 0, s.nxt, s.sd⟩ = ([], ⟨0, 0, s.nxt, s.sd⟩, y) := by
  have e : scan1 (b.drop s.fin) ⟨0, 0, s.nxt, s.sd⟩ = .inr y := by
    rw [scan1] at h ⊢
    simp only [List.length_drop, List.drop_zero]
    by_cases hl : b.length ≤ s.fin
    · rw [if_pos hl] at h
      rw [if_pos (by omega)]
      cases h; rfl
    · rw [if_neg hl] at h
      rw [if_neg (by omega)]
      revert h
      split
      · split
        · intro h; cases h
        · intro h; cases h; rfl
      · intro h; cases h; rfl
  simp only [scanL, e]
/-- a frame cut short is none -/
theorem fread_short (seed lsn : Nat) (d : List UInt8) (m : Nat) (h3 : d.length ≤ 4096) (hm : m < 16 + d.length) : (fread seed ((frameB seed lsn d).take m)).2.2.2.2 ≠ 0 := by
  have hl : ((frameB seed lsn d).take m).length = m := List.length_take_of_le (by rw [frameB_length]; omega)
  by_cases h16 : m < 16
  · rw [fread, if_pos (by omega)]; simp
  · have t4 : ((frameB seed lsn d).take m).take 4 = le 4 d.length := by
      rw [List.take_take, Nat.min_eq_left (by omega)]
      unfold frameB
      rw [List.append_assoc, List.append_assoc]
      exact List.take_left' (le_length _ _)
    rw [fread, if_neg (by omega), t4, num4_le _ (by omega), if_neg (by omega)]
    split
    · simp
    · rw [if_pos (by omega)]; simp
theorem scan1_short {b pre : List UInt8} {s : Sc} {d : List UInt8} {L m : Nat} (hb : b = pre ++ (frameB s.sd L d).take m) (hp : pre.length = s.fin) (h3 : d.length ≤ 4096) (hm : m < 16 + d.length) (h0 : 0 < m) : ∃ y, scan1 b s = .inr y ∧ y ≠ 1 := by
  have hd : b.drop s.fin = (frameB s.sd L d).take m := by rw [hb, ← hp, List.drop_left]
  have hl : s.fin < b.length := by rw [hb, List.length_append, List.length_take_of_le (by rw [frameB_length]; omega)]; omega
  have hf := fread_short s.sd L d m h3 hm
  rw [scan1, if_neg (by omega), hd]
  revert hf
  generalize fread s.sd ((frameB s.sd L d).take m) = r
  obtain ⟨a1, a2, a3, a4, a5⟩ := r
  intro hf
  cases a5 with
  | zero => exact absurd rfl hf
  | succ e => exact ⟨_, rfl, by unfold whyN; split <;> (try split) <;> (try split) <;> omega⟩
end Go.Proofs.Ytdfabjkffjacoaa
