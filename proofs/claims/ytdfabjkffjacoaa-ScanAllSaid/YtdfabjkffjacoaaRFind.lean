/- Walks: flumeref7.All below number 1, flumeref7.Find. -/
import Derived.Test.YtdfabjkffjacoaaSBegun
namespace Go.Proofs.Ytdfabjkffjacoaa
open Go.RowKit Go.Shelf

set_option maxRecDepth 100000 in
theorem rall_low (A : Option Addr) (n c : Nat) (base : Int) (seed : Int) (w : World) (g1 : base < 1) :
    Calls Try.prog 29 #[.slice A n c, .int .i64 base, .int .u32 seed, .int .i64 (-1)] w (RAllP w ([], ⟨0, 0, 0, 0⟩, 0)) := by
  have hb1 : decide (base < 1) = true := by simp; omega
  have p0 : (w.alloc (Obj.cells #[.int .i64 0, .int .i64 0, .int .i64 0, .int .u32 0, .int .i64 0] 57)).heap[w.heap.size]? = some (.cells #[.int .i64 0, .int .i64 0, .int .i64 0, .int .u32 0, .int .i64 0] 57 (0, 0)) := heap_alloc_new w _
  have hb0 : Below w.heap.size w (w.alloc (Obj.cells #[.int .i64 0, .int .i64 0, .int .i64 0, .int .u32 0, .int .i64 0] 57)) := (Below.refl _ _).alloc (Nat.le_refl _) _
  go_enter Try.func29, Try.ntmps29
  go_wp2_with (first
    | (refine wpList_store_row rfl _ (.tmp 8) (.tmp 18) rfl _ #[.int .i64 0, .int .i64 0, .int .i64 0, .int .u32 0, .int .i64 0] rfl rfl _ _ p0 (by kernel_rfl) rfl (by kernel_rfl) ?_))
  have hO : Only (fun j => j = w.heap.size) (w.alloc (Obj.cells #[.int .i64 0, .int .i64 0, .int .i64 0, .int .u32 0, .int .i64 0] 57)) ((w.alloc (Obj.cells #[.int .i64 0, .int .i64 0, .int .i64 0, .int .u32 0, .int .i64 0] 57)).setRow w.heap.size #[.int .i64 0, .int .i64 0, .int .i64 0, .int .u32 0, .int .i64 0]) := ⟨rfl, rfl, rfl, by simp, fun j _ hn => setRow_other _ _ j _ hn⟩
  refine bodyPost_ret (results_cell_t1 (x := 9) rfl _ _ _ _ _ _ _ rfl (setRow_heap _ _ _ _ _ _ p0) Try.underlying57 rfl (by kernel_rfl)) rfl ⟨_, rfl, ⟨[], rfl, World.ownsRow_nil _ _ _ _, fun i h => absurd h (Nat.not_lt_zero _)⟩, hb0.trans (hO.below hb0.size fun j hj => by omega)⟩
theorem rall_all (b : List UInt8) (A : Option Addr) (n c : Nat) (base : Int) (seed : Nat) (w : World) (hl : b.length = n) (hn : n ≤ 100000000) (hc : n ≤ c) (hcm : c ≤ 9223372036854775807) (hr : Rd w A (bv b)) (hsd : seed < 4294967296) (g2 : base ≤ 9223372036854775807) :
    Calls Try.prog 29 #[.slice A n c, .int .i64 base, .int .u32 seed, .int .i64 (-1)] w (RAllP w (scanI b base seed)) := by
  unfold scanI
  by_cases h : base < 1
  · rw [if_pos h]
    exact rall_low A n c base seed w h
  · rw [if_neg h]
    subst hl
    exact rall_any b A _ c base seed w rfl hn hc hcm hr hsd (by omega) g2

/-- one placed record of a list: its cells -/
theorem Plcs.at {B : Nat} {w : World} {v : Value} {ps : List (Nat × Nat × List UInt8)} (h : Plcs B w v ps) : ∃ D c, v = .slice D ps.length c ∧ (∀ ad, D = some ad → B ≤ ad.block ∧ ad.block < w.heap.size) ∧
    ∀ i (hi : i < ps.length), ∃ ad A c, D = some ad ∧ w.cell? (ad.add (i * 3)) = some (.int .i64 ps[i].1) ∧ w.cell? ⟨(ad.add (i * 3)).block, (ad.add (i * 3)).off + 1, none⟩ = some (.int .i64 ps[i].2.1) ∧
      w.cell? ⟨(ad.add (i * 3)).block, (ad.add (i * 3)).off + 2, none⟩ = some (.slice A ps[i].2.2.length c) ∧ Own B w A ps[i].2.2.length c ps[i].2.2 := by
  obtain ⟨xs, hxl, hrow, hxs⟩ := h.ex
  rcases hrow.2 with ⟨hv, hn⟩ | ⟨g, cap, cur, hv, hbg, hg, _, _, hsz, htk⟩
  · exact ⟨none, 0, by rw [hv, hn], fun ad e => (by cases e), fun i hi => absurd hi (by omega)⟩
  · refine ⟨_, cap, hv, fun ad e => (by cases e; exact ⟨hbg, (Array.getElem?_eq_some_iff.1 hg).1⟩), fun i hi => ?_⟩
    obtain ⟨h1, h2, A, c, h3, h4⟩ := hxs i hi (by omega)
    have hfl : ∀ (ys : List (Nat × Nat × Value)) (i j : Nat) (hi : i < ys.length), j < 3 → (ys.flatMap plv)[i * 3 + j]? = (plv ys[i])[j]? := fun ys => by
      induction ys with
      | nil => intro i j hi; simp at hi
      | cons y ys ih =>
        intro i j hi hj
        rw [List.flatMap_cons]
        cases i with
        | zero => rw [List.getElem?_append_left (by simp [plv]; omega)]; simp
        | succ i =>
          rw [List.getElem?_append_right (by simp [plv]; omega), show (i + 1) * 3 + j - (plv y).length = i * 3 + j from by simp [plv]; omega, ih i j (by simpa using hi) hj]
          simp
    have hc : ∀ j, j < 3 → w.cell? ⟨g, i * 3 + j, none⟩ = (plv (xs[i]'(by omega)))[j]? := fun j hj => by
      rw [← hfl xs i j (by omega) hj, ← htk, cell_of_row w g _ _ _ _ hg, List.getElem?_take, if_pos (by omega), Array.getElem?_toList]
    refine ⟨⟨g, 0, none⟩, A, c, rfl, ?_, ?_, ?_, h4⟩
    · rw [addr0, ← h1]; exact hc 0 (by omega)
    · rw [addr0, ← h2]; exact hc 1 (by omega)
    · rw [addr0, ← h3]; exact hc 2 (by omega)

set_option maxRecDepth 100000 in
set_option maxHeartbeats 2000000 in
theorem rfind_any (b : List UInt8) (A : Option Addr) (n c : Nat) (base : Int) (seed : Nat) (lsn : Int) (w : World) (hl : b.length = n) (hn : n ≤ 100000000) (hc : n ≤ c) (hcm : c ≤ 9223372036854775807) (hr : Rd w A (bv b)) (hsd : seed < 4294967296)
    (g2 : base ≤ 9223372036854775807) :
    Calls Try.prog 33 #[.slice A n c, .int .i64 base, .int .u32 seed, .int .i64 lsn] w (FindP w (findL lsn (scanI b base seed).1)) := by
  go_enter Try.func33, Try.ntmps33
  have hba : Below w.heap.size w (w.alloc (Obj.cells #[.int .i64 0, .slice none 0 0] 34)) := (Below.refl _ _).alloc (Nat.le_refl _) _
  have p0 : (w.alloc (Obj.cells #[.int .i64 0, .slice none 0 0] 34)).heap[w.heap.size]? = some (.cells #[.int .i64 0, .slice none 0 0] 34 (0, 0)) := heap_alloc_new w _
  have hrW := hr.keep hba
  go_wp2_with fail
  have hz0 : (w.alloc (Obj.cells #[.int .i64 0, .slice none 0 0] 34)).heap.size = w.heap.size + 1 := by simp
  generalize (w.alloc (Obj.cells #[.int .i64 0, .slice none 0 0] 34)) = W0 at *
  refine (rall_all b A n c base seed W0 hl hn hc hcm hrW hsd g2).mono ?_
  rintro e w1 ⟨v, rfl, hP, hb1⟩
  have hlen := scanI_len b base seed
  generalize hrr : scanI b base seed = r at *
  obtain ⟨ps, ⟨cn, fi, nx, sd⟩, y⟩ := r
  have HRR := Lib.hid hrr
  have p1 := (hb1.block _ (by omega)).trans p0
  have hb01 := hba.trans (hb1.mono hba.size)
  simp only [scv] at hP hlen ⊢
  clear hrr hr hrW hb1 hba p0
  go_wp2_with fail
  obtain ⟨W1, hW1⟩ : ∃ W1, W1 = (w1.alloc (Obj.cells #[.int .i64 cn, .int .i64 fi, .int .i64 nx, .int .u32 sd, .int .i64 y] 57)) := ⟨_, rfl⟩
  rw [← hW1]
  have hbx : Below w1.heap.size w1 W1 := by rw [hW1]; exact (Below.refl _ _).alloc (Nat.le_refl _) _
  have hP1 : Plcs W0.heap.size W1 v ps := hP.only (Only.of_below (R := fun _ => False) hbx) (fun _ h => h.elim)
  have p1' := (hbx.block _ (Array.getElem?_eq_some_iff.1 p1).1).trans p1
  have hbw := hb01.trans (hbx.mono hb01.size)
  clear hW1 hbx hP p1 hb01
  obtain ⟨D, cD, rfl, hDlt, hAt⟩ := hP1.at
  have HAT := Lib.hid hAt
  clear hAt hP1
  go_loopw [13] (fun i wr => ∃ (k : Nat), k ≤ ps.length ∧ i = .int .i64 k ∧ wr = W1 ∧ Hid (∀ j (h : j < ps.length), j < k → (ps[j].2.1 : Int) ≠ lsn)) (fun i _ => ps.length - (intOf i).toNat)
  case atStart => exact ⟨0, by omega, rfl, rfl, Lib.hid fun j _ h => absurd h (Nat.not_lt_zero _)⟩
  case round =>
    obtain ⟨k, hk, rfl, rfl, HN⟩ := hrel
    by_cases hlt : k < ps.length
    · obtain ⟨ad, A1, c1, rfl, e0, e1, e2, ho⟩ := HAT.out k hlt
      have hk0 : (0 : Int) ≤ (k : Int) := by omega
      have hk1 : (k : Int) < (ps.length : Int) := by omega
      by_cases hls : (ps[k].2.1 : Int) = lsn
      · have hb : ((ps[k].2.1 : Int) == lsn) = true := by simpa using hls
        have HF := Lib.hid (findL_at lsn ps k hlt (fun j hj hjk => HN.out j hj hjk) hls)
        clear hls
        have f0 := frozen_of_row _ _ 0 _ _ p1'
        have f1 := frozen_of_row _ _ 1 _ _ p1'
        have q0 := cell_of_row _ _ 0 _ _ _ p1'
        have q1 := cell_of_row _ _ 1 _ _ _ p1'
        generalize ps[k] = x at *
        obtain ⟨x1, x2, x3⟩ := x
        simp only at *
        go_wp2_with fail
        have hdb := (hDlt ad rfl).1
        have hdn : (ad.add (k * 3)).block ≠ w.heap.size := by rw [block_of_add]; omega
        have e0' : ((wr.setCell ⟨w.heap.size, 0, none⟩ (.int .i64 x2)).setCell ⟨w.heap.size, 1, none⟩ (.slice A1 x3.length c1)).cell? (ad.add (k * 3)) = some (.int .i64 x1) := (only_set _ w.heap.size 1 _).cell hdn ((only_set _ w.heap.size 0 _).cell hdn e0)
        have e0'' : ((wr.drew.setCell ⟨w.heap.size, 0, none⟩ (.int .i64 x2)).setCell ⟨w.heap.size, 1, none⟩ (.slice A1 x3.length c1)).cell? (ad.add (k * 3)) = some (.int .i64 x1) := e0'
        go_region_law (fail)
        all_goals
          have hO1 := Only.trans (R := fun j => j = w.heap.size) (R' := fun j => j = w.heap.size) (only_set wr w.heap.size 0 (.int .i64 x2)) (only_set _ w.heap.size 1 (.slice A1 x3.length c1)) (fun _ _ h => h)
          have hO2 : Only (fun j => j = w.heap.size) wr ((wr.setCell ⟨w.heap.size, 0, none⟩ (.int .i64 x2)).setCell ⟨w.heap.size, 1, none⟩ (.slice A1 x3.length c1)).drew := ⟨hO1.os, hO1.tape, hO1.output, hO1.size, hO1.block⟩
          have p2 : ((wr.setCell ⟨w.heap.size, 0, none⟩ (.int .i64 x2)).setCell ⟨w.heap.size, 1, none⟩ (.slice A1 x3.length c1)).drew.heap[w.heap.size]? = some (.cells #[.int .i64 x2, .slice A1 x3.length c1] 34 (0, 0)) := heap_setCell_same _ _ 1 _ _ _ (heap_setCell_same _ _ 0 _ _ _ p1')
          generalize ((wr.setCell ⟨w.heap.size, 0, none⟩ (.int .i64 x2)).setCell ⟨w.heap.size, 1, none⟩ (.slice A1 x3.length c1)).drew = w2 at *
          go_wp2_with fail
          have ho2 : Own w.heap.size w2 A1 x3.length c1 x3 := (hO2.own (fun a ha he => by have := (ho.lt a ha).1; omega) ho).mono (by omega)
          refine bodyPost_ret (results_cell_t2 (x := 9) (y := 10) rfl _ _ _ _ _ _ _ rfl p2 Try.underlying34 rfl (by kernel_rfl)) rfl ⟨A1, x3.length, c1, ?_, by rw [HF.out]; exact ho2, hbw.trans (hO2.below hbw.size fun j hj => by omega)⟩
          rw [HF.out]
          rfl
      · have hb : ((ps[k].2.1 : Int) == lsn) = false := by simpa using hls
        have HX := Lib.hid (show ∀ j (h : j < ps.length), j < k + 1 → (ps[j].2.1 : Int) ≠ lsn from fun j hj hjk => by
          by_cases e : j = k
          · subst e; exact hls
          · exact HN.out j hj (by omega))
        clear hls
        generalize ps[k] = x at *
        obtain ⟨x1, x2, x3⟩ := x
        simp only at *
        go_wp2_with fail
        exact ⟨⟨k + 1, by omega, by go_num, trivial, HX⟩, by simp [intOf]; omega⟩
    · obtain rfl : k = ps.length := by omega
      have HF := Lib.hid (findL_none lsn ps (fun j hj => HN.out j hj hj))
      go_wp2_with (first
        | (refine wpList_store_row rfl _ (.tmp 8) (.tmp 45) rfl _ #[.int .i64 0, .slice none 0 0] rfl rfl _ _ p1' (by kernel_rfl) rfl (by kernel_rfl) ?_))
      have hO2 : Only (fun j => j = w.heap.size) wr (wr.setRow w.heap.size #[.int .i64 0, .slice none 0 0]) := ⟨rfl, rfl, rfl, by simp, fun j _ hn => setRow_other _ _ j _ hn⟩
      refine bodyPost_ret (results_cell_t2 (x := 9) (y := 10) rfl _ _ _ _ _ _ _ rfl (setRow_heap _ _ _ _ _ _ p1') Try.underlying34 rfl (by kernel_rfl)) rfl ⟨none, 0, 0, ?_, ?_, hbw.trans (hO2.below hbw.size fun j hj => by omega)⟩
      · rw [HF.out]
        rfl
      · rw [HF.out]
        exact Own.nil _ _
end Go.Proofs.Ytdfabjkffjacoaa
