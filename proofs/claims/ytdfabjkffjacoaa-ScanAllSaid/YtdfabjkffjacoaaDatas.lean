/- Words for the rows: a slice of slices of bytes, opened. -/
import Derived.Test.YtdfabjkffjacoaaChainW
import Derived.Test.YtdfabjkffjacoaaRow
namespace Go.Proofs.Ytdfabjkffjacoaa
open Go.ChangeShapes Go.WideShapes Go.ChangeAt Go.RowKit Go.Joins

theorem bulk_pos {H : Type} (y : DataW H) : 1 ≤ Rows.uptoBulk y := by
  cases y with
  | lit l => cases l <;> simp [Rows.uptoBulk]
  | nil => simp [Rows.uptoBulk]
  | ptr d => simp [Rows.uptoBulk]
  | slice elems spare => simp [Rows.uptoBulk]
  | agg parts => simp [Rows.uptoBulk]
  | iface t d => simp [Rows.uptoBulk]
  | map entries => simp [Rows.uptoBulk]
  | held h => simp [Rows.uptoBulk]
theorem bulk_sum {H : Type} (D : Nat → DataW H) (L : Nat → Nat) (h : ∀ i, L i ≤ Rows.uptoBulk (D i)) : ∀ is : List Nat, (is.map L).sum ≤ Rows.uptoBulkAll (is.map D)
  | [] => by simp [Rows.uptoBulkAll]
  | i :: is => by
    have h1 := bulk_sum D L h is
    have h2 := h i
    simp only [List.map_cons, List.sum_cons, Rows.uptoBulkAll]
    omega
theorem bulk_sum' {H : Type} (D : Nat → DataW H) (L : Nat → Nat) (n : Nat) (h : ∀ i, i < n → L i ≤ Rows.uptoBulk (D i)) : ((List.range n).map L).sum ≤ Rows.uptoBulkAll ((List.range n).map D) := by
  have h1 := bulk_sum D (fun i => if i < n then L i else 1) (fun i => by
    by_cases hi : i < n
    · simp only [hi, if_true]; exact h i hi
    · simp only [hi, if_false]; exact bulk_pos _) (List.range n)
  rw [List.map_congr_left (g := L) (fun i hi => by simp [List.mem_range.1 hi])] at h1
  exact h1

/-- a slice of slices of bytes that came in -/
theorem open_datas {H : Type} {enc : TypeId × Value → H} {w : World} {base : Nat} {spare : Nat → Bool} {held : Bool} {fuel : Nat} {v : Value} {x : DataW H × List MemPlace}
    (h : DataW.trod enc Try.prog w base spare held fuel 28 [v] = some x) :
    ∃ vs ls n A c, v = .slice A n c ∧ Datas w A n vs ls ∧ n ≤ c ∧ c ≤ 9223372036854775807 ∧ n ≤ Rows.uptoBulk x.1 ∧ (ls.map List.length).sum ≤ Rows.uptoBulk x.1 := by
  rcases Deep.open_slice1 Try.underlying28 (by kernel_rfl) h with ⟨hcs, hx⟩ | ⟨a, len, cap, m, k, V, D, Pl, hcs, _, hl, hm, hmm, hx, hcell⟩
  · cases hcs
    subst hx
    exact ⟨[], [], 0, none, 0, rfl, ⟨rfl, rfl, Rd.nil _ _, fun i hi => absurd hi (Nat.not_lt_zero _)⟩, Nat.le_refl _, by omega, by simp, by simp [Rows.uptoBulk]⟩
  · cases hcs
    subst hx
    have hlm : len ≤ m := by rw [hmm]; split <;> omega
    have hch : ∀ i, i < len → ∃ y : List UInt8 × Option Addr × Nat, V i = .slice y.2.1 y.1.length y.2.2 ∧ y.1.length ≤ y.2.2 ∧ y.2.2 ≤ 9223372036854775807 ∧ Rd w y.2.1 (bv y.1) ∧ y.1.length ≤ Rows.uptoBulk (D i) := fun i hi => by
      obtain ⟨hc, ht⟩ := hcell i (by omega)
      obtain ⟨l, n, A, c, hB, hb⟩ := open_bytes ht
      have hv := hB.val
      have hll := hB.len
      subst hll
      have hp := bulk_pos (D i)
      refine ⟨(l, A, c), hv, hB.cap, hB.max, hB.rd, ?_⟩
      simp only at hb ⊢
      split at hb <;> omega
    obtain ⟨f, hf⟩ := Deep.choose_lt hch
    refine ⟨(List.range len).map V, (List.range len).map fun i => (f i).1, len, some a, cap, rfl, ⟨by simp, by simp, ?_, ?_⟩, hl, by simp only [maxLen] at hm; omega, ?_, ?_⟩
    · intro j u hj
      rw [List.getElem?_map] at hj
      by_cases hjl : j < len
      · rw [List.getElem?_range hjl] at hj
        simp only [Option.map_some, Option.some.injEq] at hj
        exact ⟨a, rfl, by rw [(hcell j (by omega)).1, hj]⟩
      · rw [List.getElem?_eq_none (by simp; omega)] at hj
        simp at hj
    · intro i hi
      have hil : i < len := by simpa using hi
      obtain ⟨h1, h2, h3, h4, _⟩ := hf i hil
      refine ⟨(f i).2.1, (f i).2.2, ?_, ?_, h3, ?_⟩
      · simp only [List.getElem?_map, List.getElem?_range hil, Option.map_some, List.getElem_map, List.getElem_range, h1]
      · simpa using h2
      · simpa using h4
    · have h1 := bulk_sum' D (fun _ => 1) len (fun i _ => bulk_pos _)
      simp only [Rows.uptoBulk]
      have h2 : ((List.range len).map fun _ => 1).sum = len := by
        have : ∀ l : List Nat, (l.map fun _ => 1).sum = l.length := by
          intro l; induction l with
          | nil => rfl
          | cons x l ih => simp [ih]; omega
        rw [this, List.length_range]
      omega
    · have h1 := bulk_sum' D (fun i => (f i).1.length) len (fun i hi => (hf i hi).2.2.2.2)
      simp only [Rows.uptoBulk, List.map_map]
      have e : (List.length ∘ fun i => (f i).1) = fun i => (f i).1.length := rfl
      rw [e]
      omega
end Go.Proofs.Ytdfabjkffjacoaa
