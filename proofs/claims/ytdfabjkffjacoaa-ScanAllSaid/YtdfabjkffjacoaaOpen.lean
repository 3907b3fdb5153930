/- Words for the rows: slices of records and of integers, opened. -/
import Derived.Test.YtdfabjkffjacoaaDatas
import Derived.Test.YtdfabjkffjacoaaAllW
import Derived.Deep.SlicePairs
namespace Go.Proofs.Ytdfabjkffjacoaa
open Go.ChangeShapes Go.WideShapes Go.ChangeAt Go.RowKit Go.Joins

theorem sum_mem' {l : List Nat} {x N : Nat} (hx : x ∈ l) (h : l.sum ≤ N) : x ≤ N := by
  induction l with
  | nil => cases hx
  | cons y l ih =>
    simp only [List.sum_cons] at h
    rcases List.mem_cons.1 hx with rfl | hx
    · omega
    · exact ih hx (by omega)

theorem open_recs {H : Type} {enc : TypeId × Value → H} {w : World} {base : Nat} {spare : Nat → Bool} {held : Bool} {fuel : Nat} {v : Value} {x : DataW H × List MemPlace}
    (h : DataW.trod enc Try.prog w base spare held fuel 22 [v] = some x) :
    ∃ rs n A c, v = .slice A n c ∧ Recs w A n rs ∧ n ≤ c ∧ c ≤ 9223372036854775807 ∧ ∀ r ∈ rs, r.2.2.length ≤ Rows.uptoBulk x.1 := by
  rcases Deep.open_slice_pairs Try.underlying22 Try.underlying34 (by kernel_rfl) rfl rfl (by kernel_rfl) (by kernel_rfl) h with ⟨hcs, hx⟩ | ⟨a, len, cap, m, k, V0, V1, D0, D1, P0, P1, hcs, _, hl, hm, hmm, hx, hcell⟩
  · cases hcs
    subst hx
    exact ⟨[], 0, none, 0, rfl, ⟨rfl, fun i hi => absurd hi (Nat.not_lt_zero _)⟩, Nat.le_refl _, by omega, fun r hr => by cases hr⟩
  · cases hcs
    subst hx
    have hlm : len ≤ m := by rw [hmm]; split <;> omega
    have hch : ∀ i, i < len → ∃ y : (Int × Value × List UInt8) × Option Addr × Nat, -9223372036854775808 ≤ y.1.1 ∧ y.1.1 ≤ 9223372036854775807 ∧ y.1.2.1 = .slice y.2.1 y.1.2.2.length y.2.2 ∧ y.1.2.2.length ≤ y.2.2 ∧ y.2.2 ≤ 9223372036854775807 ∧ Rd w y.2.1 (bv y.1.2.2) ∧
        w.cell? (a.add (i * 2)) = some (.int .i64 y.1.1) ∧ w.cell? (a.add (i * 2 + 1)) = some y.1.2.1 ∧ y.1.2.2.length ≤ Rows.uptoBulk (D1 i) := fun i hi => by
      obtain ⟨h0, h1, t0, t1⟩ := hcell i (by omega)
      obtain ⟨z, e0, _, w0⟩ := DataW.trod_int Try.underlying2 t0
      have b0 : -9223372036854775808 ≤ z ∧ z ≤ 9223372036854775807 := by simpa [Lit.wf, IntKind.min, IntKind.max, IntKind.signed, IntKind.bits] using w0
      obtain ⟨l, n, A, c, hB, hb⟩ := open_bytes t1
      have hll := hB.len
      subst hll
      have hp := bulk_pos (D1 i)
      refine ⟨((z, V1 i, l), A, c), b0.1, b0.2, hB.val, hB.cap, hB.max, hB.rd, ?_, h1, ?_⟩
      · rw [h0]; simpa using e0
      · simp only at hb ⊢
        split at hb <;> omega
    obtain ⟨f, hf⟩ := Deep.choose_lt hch
    refine ⟨(List.range len).map fun i => (f i).1, len, some a, cap, rfl, ⟨by simp, ?_⟩, hl, by simp only [maxLen] at hm; omega, ?_⟩
    · intro i hi
      have hil : i < len := by simpa using hi
      obtain ⟨h1, h2, h3, h4, h5, h6, h7, h8, _⟩ := hf i hil
      have hg : ((List.range len).map fun i => (f i).1)[i] = (f i).1 := by simp
      rw [hg]
      exact ⟨h1, h2, a, (f i).2.1, (f i).2.2, rfl, h3, h4, h5, h6, h7, h8⟩
    · intro r hr
      obtain ⟨i, hi, rfl⟩ := List.mem_map.1 hr
      have hil := List.mem_range.1 hi
      have h1 := bulk_sum' (fun i => .agg [D0 i, D1 i]) (fun i => (f i).1.2.2.length) len (fun i hi => by
        have := (hf i hi).2.2.2.2.2.2.2.2
        simp only [Rows.uptoBulk, Rows.uptoBulkAll]
        omega)
      have h2 := sum_mem' (List.mem_map_of_mem (f := fun i => (f i).1.2.2.length) hi) h1
      simp only [Rows.uptoBulk]
      omega

theorem open_nums {H : Type} {enc : TypeId × Value → H} {w : World} {base : Nat} {spare : Nat → Bool} {held : Bool} {fuel : Nat} {v : Value} {x : DataW H × List MemPlace} {t e : TypeId} {k : IntKind} (lo hi : Int)
    (ht : Try.prog.underlying t = some (.slice e)) (he : Try.prog.underlying e = some (.int k)) (hc : Try.prog.cellsOf e = 1) (hw : ∀ z, (Lit.int k z).wf = true → lo ≤ z ∧ z ≤ hi)
    (h : DataW.trod enc Try.prog w base spare held fuel t [v] = some x) :
    ∃ zs n A c, v = .slice A n c ∧ Nums w k lo hi A n zs ∧ n ≤ c ∧ c ≤ 9223372036854775807 := by
  rcases ChangeShapes.open_ints ht he hc h with ⟨hcs, hx⟩ | ⟨a, len, cap, zs, hcs, _, hl, hm, hz, hx, hcell, hwz⟩
  · cases hcs
    exact ⟨[], 0, none, 0, rfl, ⟨rfl, fun i hi => absurd hi (Nat.not_lt_zero _)⟩, Nat.le_refl _, by omega⟩
  · cases hcs
    have hlen : len ≤ zs.length := by rw [hz]; split <;> omega
    refine ⟨zs.take len, len, some a, cap, rfl, ⟨List.length_take_of_le hlen, fun i hi => ?_⟩, hl, by simp only [maxLen] at hm; omega⟩
    have hil : i < zs.length := by rw [List.length_take] at hi; omega
    rw [List.getElem_take]
    obtain ⟨h1, h2⟩ := hw _ (hwz _ (List.getElem_mem hil))
    refine ⟨h1, h2, a, rfl, ?_⟩
    rw [hcell i hil, List.getD_eq_getElem?_getD, List.getElem?_eq_getElem hil]
    rfl
end Go.Proofs.Ytdfabjkffjacoaa
