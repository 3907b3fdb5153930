/- Plain laws: frames and heads, written and read back; no walk. -/
import Derived.Test.YtdfabjkffjacoaaRHead
namespace Go.Proofs.Ytdfabjkffjacoaa

theorem num4_le (n : Nat) (h : n < 4294967296) : num (le 4 n) = n := num_le 4 n (by simpa using h)
theorem num8_le (n : Nat) (h : n < 18446744073709551616) : num (le 8 n) = n := num_le 8 n (by simpa using h)

theorem frame_parts (seed lsn : Nat) (l rest : List UInt8) : ∃ t, frameB seed lsn l ++ rest = le 4 l.length ++ t ∧ ∃ u, t = le 8 lsn ++ u ∧ ∃ v, u = le 4 (mask (fsum seed lsn l)) ++ v ∧ v = l ++ rest :=
  ⟨_, by simp [frameB, List.append_assoc], _, rfl, _, rfl, rfl⟩

theorem fread_fwrite (seed lsn : Nat) (l rest : List UInt8) (h1 : 1 ≤ lsn) (h2 : lsn ≤ 9223372036854775806) (h3 : l.length ≤ 4096) :
    fread seed (frameB seed lsn l ++ rest) = (lsn, l, 16 + l.length, fsum seed lsn l, 0) := by
  have hlen : (frameB seed lsn l ++ rest).length = 16 + l.length + rest.length := by rw [List.length_append, frameB_length]
  obtain ⟨t, e, u, rfl, v, rfl, rfl⟩ := frame_parts seed lsn l rest
  have t4 : (frameB seed lsn l ++ rest).take 4 = le 4 l.length := by rw [e]; exact List.take_left' (le_length _ _)
  have d4 : (frameB seed lsn l ++ rest).drop 4 = le 8 lsn ++ (le 4 (mask (fsum seed lsn l)) ++ (l ++ rest)) := by rw [e]; exact List.drop_left' (le_length _ _)
  have d12 : (frameB seed lsn l ++ rest).drop 12 = le 4 (mask (fsum seed lsn l)) ++ (l ++ rest) := by
    rw [show 12 = 4 + 8 from rfl, ← List.drop_drop, d4]; exact List.drop_left' (le_length _ _)
  have d16 : (frameB seed lsn l ++ rest).drop 16 = l ++ rest := by
    rw [show 16 = 12 + 4 from rfl, ← List.drop_drop, d12]; exact List.drop_left' (le_length _ _)
  have n4 : num ((frameB seed lsn l ++ rest).take 4) = l.length := by rw [t4]; exact num4_le _ (by omega)
  have n8 : num (((frameB seed lsn l ++ rest).drop 4).take 8) = lsn := by rw [d4, List.take_left' (le_length _ _)]; exact num8_le _ (by omega)
  have nm : num (((frameB seed lsn l ++ rest).drop 12).take 4) = mask (fsum seed lsn l) := by rw [d12, List.take_left' (le_length _ _)]; exact num4_le _ (mask_lt _)
  have dl : ((frameB seed lsn l ++ rest).drop 16).take l.length = l := by rw [d16, List.take_left' rfl]
  rw [fread, if_neg (by omega), n4, if_neg (by omega), n8, if_neg (by simp [numB]; omega), if_neg (by omega), dl, nm, if_neg (by simp)]

theorem fread_err (seed : Nat) (l : List UInt8) : (fread seed l).2.2.2.2 ≤ 5 := by
  unfold fread
  repeat' split
  all_goals simp

/-- what was read, written -/
theorem fwrite_fread (seed : Nat) (b : List UInt8) (h : (fread seed b).2.2.2.2 = 0) :
    1 ≤ (fread seed b).1 ∧ (fread seed b).1 ≤ 9223372036854775806 ∧ (fread seed b).2.1.length ≤ 4096 ∧ (fread seed b).2.2.1 = 16 + (fread seed b).2.1.length ∧ (fread seed b).2.2.1 ≤ b.length ∧
    (fread seed b).2.2.2.1 = fsum seed (fread seed b).1 (fread seed b).2.1 ∧ frameB seed (fread seed b).1 (fread seed b).2.1 = b.take (fread seed b).2.2.1 := by
  by_cases c1 : b.length < 16
  · rw [fread, if_pos c1] at h; simp at h
  by_cases c2 : 4096 < num (b.take 4)
  · rw [fread, if_neg c1, if_pos c2] at h; simp at h
  by_cases c3 : numB (num ((b.drop 4).take 8)) 9223372036854775806 = false
  · rw [fread, if_neg c1, if_neg c2, if_pos c3] at h; simp at h
  by_cases c4 : b.length < 16 + num (b.take 4)
  · rw [fread, if_neg c1, if_neg c2, if_neg c3, if_pos c4] at h; simp at h
  by_cases c5 : num ((b.drop 12).take 4) ≠ mask (fsum seed (num ((b.drop 4).take 8)) ((b.drop 16).take (num (b.take 4))))
  · rw [fread, if_neg c1, if_neg c2, if_neg c3, if_neg c4, if_pos c5] at h; simp at h
  have e : fread seed b = (num ((b.drop 4).take 8), (b.drop 16).take (num (b.take 4)), 16 + num (b.take 4), fsum seed (num ((b.drop 4).take 8)) ((b.drop 16).take (num (b.take 4))), 0) := by
    rw [fread, if_neg c1, if_neg c2, if_neg c3, if_neg c4, if_neg c5]
  rw [e]
  have hB : 1 ≤ num ((b.drop 4).take 8) ∧ num ((b.drop 4).take 8) ≤ 9223372036854775806 := by
    cases hb : numB (num ((b.drop 4).take 8)) 9223372036854775806 with
    | false => exact absurd hb c3
    | true => simpa [numB] using hb
  have hd : ((b.drop 16).take (num (b.take 4))).length = num (b.take 4) := by rw [List.length_take_of_le]; rw [List.length_drop]; omega
  have hk : num ((b.drop 12).take 4) = mask (fsum seed (num ((b.drop 4).take 8)) ((b.drop 16).take (num (b.take 4)))) := by
    by_cases hh : num ((b.drop 12).take 4) = mask (fsum seed (num ((b.drop 4).take 8)) ((b.drop 16).take (num (b.take 4))))
    · exact hh
    · exact absurd hh c5
  refine ⟨hB.1, hB.2, by simp only [hd]; omega, by simp only [hd], by simp only; omega, rfl, ?_⟩
  simp only [frameB, hd]
  rw [← hk]
  have l4 : (b.take 4).length = 4 := List.length_take_of_le (by omega)
  have l8 : ((b.drop 4).take 8).length = 8 := List.length_take_of_le (by rw [List.length_drop]; omega)
  have lm : ((b.drop 12).take 4).length = 4 := List.length_take_of_le (by rw [List.length_drop]; omega)
  have e4 : le 4 (num (b.take 4)) = b.take 4 := by have := le_num (b.take 4); rwa [l4] at this
  have e8 : le 8 (num ((b.drop 4).take 8)) = (b.drop 4).take 8 := by have := le_num ((b.drop 4).take 8); rwa [l8] at this
  have em : le 4 (num ((b.drop 12).take 4)) = (b.drop 12).take 4 := by have := le_num ((b.drop 12).take 4); rwa [lm] at this
  rw [e4, e8, em]
  generalize num (b.take 4) = N
  rw [show b.drop 12 = (b.drop 4).drop 8 from by rw [List.drop_drop], show b.drop 16 = (b.drop 4).drop 12 from by rw [List.drop_drop]]
  rw [List.take_add (i := 16) (j := N), show b.take 16 = b.take 4 ++ (b.drop 4).take 12 from by rw [show 16 = 4 + 12 from rfl, List.take_add], show (b.drop 4).take 12 = (b.drop 4).take 8 ++ ((b.drop 4).drop 8).take 4 from by rw [show 12 = 8 + 4 from rfl, List.take_add]]
  simp only [List.append_assoc, List.drop_drop]

theorem bareB_length (nm base seed : Nat) : (bareB nm base seed).length = 28 := by simp [bareB, magic, le_length]
theorem rhead_whead (nm base seed : Nat) (rest : List UInt8) (h1 : 1 ≤ nm) (h2 : nm < 9223372036854775808) (h3 : 1 ≤ base) (h4 : base < 9223372036854775808) (h5 : seed < 4294967296) :
    rhead (bareB nm base seed ++ le 4 (mask (csum (bareB nm base seed))) ++ rest) = ((nm, base, seed), csum (bareB nm base seed), 0) := by
  generalize hC : csum (bareB nm base seed) = C
  have hm := mask_lt C
  have hlen : (bareB nm base seed ++ le 4 (mask C) ++ rest).length = 32 + rest.length := by simp [bareB_length, le_length]; omega
  have e : bareB nm base seed ++ le 4 (mask C) ++ rest = magic ++ (le 8 nm ++ (le 8 base ++ (le 4 seed ++ (le 4 (mask C) ++ rest)))) := by simp [bareB, List.append_assoc]
  have t28 : (bareB nm base seed ++ le 4 (mask C) ++ rest).take 28 = bareB nm base seed := by rw [List.append_assoc]; exact List.take_left' (bareB_length _ _ _)
  have d28 : (bareB nm base seed ++ le 4 (mask C) ++ rest).drop 28 = le 4 (mask C) ++ rest := by rw [List.append_assoc]; exact List.drop_left' (bareB_length _ _ _)
  generalize bareB nm base seed ++ le 4 (mask C) ++ rest = b at *
  have t8 : b.take 8 = magic := by rw [e]; exact List.take_left' rfl
  have d8 : b.drop 8 = le 8 nm ++ (le 8 base ++ (le 4 seed ++ (le 4 (mask C) ++ rest))) := by rw [e]; exact List.drop_left' rfl
  have d16 : b.drop 16 = le 8 base ++ (le 4 seed ++ (le 4 (mask C) ++ rest)) := by rw [show 16 = 8 + 8 from rfl, ← List.drop_drop, d8]; exact List.drop_left' (le_length _ _)
  have d24 : b.drop 24 = le 4 seed ++ (le 4 (mask C) ++ rest) := by rw [show 24 = 16 + 8 from rfl, ← List.drop_drop, d16]; exact List.drop_left' (le_length _ _)
  have n1 : num ((b.drop 8).take 8) = nm := by rw [d8, List.take_left' (le_length _ _)]; exact num8_le _ (by omega)
  have n2 : num ((b.drop 16).take 8) = base := by rw [d16, List.take_left' (le_length _ _)]; exact num8_le _ (by omega)
  have n3 : num ((b.drop 24).take 4) = seed := by rw [d24, List.take_left' (le_length _ _)]; exact num4_le _ h5
  have n4 : num ((b.drop 28).take 4) = mask C := by rw [d28, List.take_left' (le_length _ _)]; exact num4_le _ hm
  rw [rhead, if_neg (by omega), t8, n1, n2, if_neg (by simp [numB]; omega), n4, t28, hC, if_neg (by simp), n3]
end Go.Proofs.Ytdfabjkffjacoaa
