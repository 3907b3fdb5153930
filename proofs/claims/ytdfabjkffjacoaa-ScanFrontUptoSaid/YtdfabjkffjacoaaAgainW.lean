/- Walk: flumelaw7.ScanAgain. -/
import Derived.Test.YtdfabjkffjacoaaSBegun
namespace Go.Proofs.Ytdfabjkffjacoaa
open Go.RowKit Go.Shelf

/-- xs[:hi] of bytes -/
theorem run_slice_hi (A : Option Addr) (n c h : Nat) (hh : h ≤ c) (w : World) : (Instr.sliceAt 31 (.slice A n c) none (some (.int .i64 (h : Int))) none).run Try.prog w = .ok (.slice A h c) w := by
  obtain ⟨i, hi', _, _, _⟩ := info_parts Try.infoB
  have e2 : (h : Int) ≤ (c : Int) := by omega
  have e3 : (0 : Int) ≤ (h : Int) := by omega
  simp [go_sem, Instr.sliceAt, Instr.slice, Instr.sliceBounds, run_underlying Try.underlying31, sizeOf, typeInfo, hi', e2, e3, Addr.add]

set_option maxRecDepth 100000 in
set_option maxHeartbeats 4000000 in
/-- xs[lo:] of bytes -/
theorem run_slice_lo (A A2 : Option Addr) (n c l : Nat) (hl : l ≤ n) (hA : A2 = if c = l then A else A.map (·.add l)) (w : World) : (Instr.sliceAt 31 (.slice A n c) (some (.int .i64 (l : Int))) none none).run Try.prog w = .ok (.slice A2 (n - l) (c - l)) w := by
  obtain ⟨i, hi', _, hs, _⟩ := info_parts Try.infoB
  have e2 : (l : Int) ≤ (n : Int) := by omega
  subst hA
  simp [go_sem, Instr.sliceAt, Instr.slice, Instr.sliceBounds, run_underlying Try.underlying31, sizeOf, typeInfo, hi', hs, e2]
theorem keep_set5 {w : World} {p : Nat} {v0 v1 v2 v3 v4 v : Value} {a : Addr} (h : a.block ≠ p) (hc : w.cell? a = some v) : (((((w.setCell ⟨p, 0, none⟩ v0).setCell ⟨p, 1, none⟩ v1).setCell ⟨p, 2, none⟩ v2).setCell ⟨p, 3, none⟩ v3).setCell ⟨p, 4, none⟩ v4).cell? a = some v :=
  (only_set _ p 4 v4).cell h ((only_set _ p 3 v3).cell h ((only_set _ p 2 v2).cell h ((only_set _ p 1 v1).cell h ((only_set w p 0 v0).cell h hc))))
theorem gotS_a {W w6 : World} (C : Array Value) (hb : Below W.drew.heap.size W.drew w6) :
    (w6.alloc (.cells C 57)).heap[w6.heap.size]? = some (.cells C 57 (0, 0)) ∧ Below W.heap.size W (w6.alloc (.cells C 57)) := by
  have h1 : Below W.heap.size W w6 := (drewN_below W.heap.size W 1).trans hb
  exact ⟨heap_alloc_new _ _, h1.alloc h1.size _⟩
theorem gotS_b {W w6 : World} {z : Obj} {x0 x1 x2 x3 x4 y0 y1 y2 y3 y4 : Value} (hz : z = .cells #[x0, x1, x2, x3, x4] 57 (0, 0)) (hb : Below (W.alloc z).drew.heap.size (W.alloc z).drew w6) :
    (((((w6.setCell ⟨W.heap.size, 0, none⟩ y0).setCell ⟨W.heap.size, 1, none⟩ y1).setCell ⟨W.heap.size, 2, none⟩ y2).setCell ⟨W.heap.size, 3, none⟩ y3).setCell ⟨W.heap.size, 4, none⟩ y4).heap[W.heap.size]? = some (.cells #[y0, y1, y2, y3, y4] 57 (0, 0)) ∧
      Below W.heap.size W (((((w6.setCell ⟨W.heap.size, 0, none⟩ y0).setCell ⟨W.heap.size, 1, none⟩ y1).setCell ⟨W.heap.size, 2, none⟩ y2).setCell ⟨W.heap.size, 3, none⟩ y3).setCell ⟨W.heap.size, 4, none⟩ y4) := by
  subst hz
  have hlt : W.heap.size < (W.alloc (.cells #[x0, x1, x2, x3, x4] 57 (0, 0))).drew.heap.size := by show _ < (W.alloc _).heap.size; simp
  have h0 : w6.heap[W.heap.size]? = some (.cells #[x0, x1, x2, x3, x4] 57 (0, 0)) := (hb.block _ hlt).trans (heap_alloc_new W _)
  have h5 := heap_setCell_same _ W.heap.size 4 _ _ y4 (heap_setCell_same _ W.heap.size 3 _ _ y3 (heap_setCell_same _ W.heap.size 2 _ _ y2 (heap_setCell_same _ W.heap.size 1 _ _ y1 (heap_setCell_same w6 W.heap.size 0 _ _ y0 h0))))
  have hbW : Below W.heap.size W w6 := thn (below_alloc_drew W _) hb
  refine ⟨h5, ?_⟩
  have hO : Only (fun j => j = W.heap.size) w6 (((((w6.setCell ⟨W.heap.size, 0, none⟩ y0).setCell ⟨W.heap.size, 1, none⟩ y1).setCell ⟨W.heap.size, 2, none⟩ y2).setCell ⟨W.heap.size, 3, none⟩ y3).setCell ⟨W.heap.size, 4, none⟩ y4) :=
    ((((only_set w6 W.heap.size 0 y0).trans (only_set _ W.heap.size 1 y1) (fun _ _ h => h)).trans (only_set _ W.heap.size 2 y2) (fun _ _ h => h)).trans (only_set _ W.heap.size 3 y3) (fun _ _ h => h)).trans (only_set _ W.heap.size 4 y4) (fun _ _ h => h)
  exact hbW.trans (hO.below hbW.size fun j hj => by omega)
theorem Rcs.val {B : Nat} {w : World} {v : Value} {rs : List (Nat × List UInt8)} (h : Rcs B w v rs) : ∃ A c, v = .slice A rs.length c := by
  obtain ⟨xs, _, hrow, _⟩ := h.ex
  rcases hrow.2 with ⟨hv, h0⟩ | ⟨g, cap, cur, hv, _⟩
  · exact ⟨none, 0, by rw [hv, h0]⟩
  · exact ⟨_, cap, hv⟩
theorem again_low (A : Option Addr) (n c : Nat) (base : Int) (seed : Nat) (w : World) (hn : n ≤ 131072) (h1 : base < 1) :
    Calls Try.prog 9 #[.slice A n c, .int .i64 base, .int .u32 seed] w (EqRP w true) := by
  have b1 : decide (base < 1) = true := by simp; omega
  have b2 : decide ((131072 : Int) < (n : Int)) = false := by simp; omega
  have hcmp : ∀ W, Sem.run Try.prog (binOp BinOp.eql 57 (.agg #[.int .i64 0, .int .i64 0, .int .i64 0, .int .u32 0, .int .i64 0]) (.agg #[.int .i64 0, .int .i64 0, .int .i64 0, .int .u32 0, .int .i64 0])) W = .ok (.bool true) W := fun W => by kernel_rfl
  go_enter Try.func9, Try.ntmps9
  go_wp2_with fail
  refine (sbegun_any w).mono ?_
  rintro e w1 ⟨rfl, hb1⟩
  go_wp2_with fail
  refine (over_low A n c base seed w1 h1).mono ?_
  rintro e w2 ⟨rfl, hb2⟩
  simp only [scv]
  rw [show ((0 : Nat) : Int) = 0 from rfl]
  go_wp2_with fail
  go_ret
  exact ⟨rfl, (hb1.trans (hb2.mono hb1.size)).alloc (hb1.trans (hb2.mono hb1.size)).size _⟩

theorem again_facts (b : List UInt8) (base seed : Nat) (hsd : seed < 4294967296) (h1 : 1 ≤ base) (g2 : base ≤ 9223372036854775807) :
    ∃ recs cn fi nx sd y, scanI b base seed = (recs, ⟨cn, fi, nx, sd⟩, y) ∧ fi ≤ b.length ∧ cn = recs.length ∧ cn * 16 ≤ b.length ∧ 1 ≤ nx ∧ nx ≤ 9223372036854775807 ∧ sd < 4294967296 ∧ y ≤ 6 ∧
      (∃ r', scanI (b.take fi) base seed = (r', ⟨cn, fi, nx, sd⟩, 1)) ∧ scanI (b.drop fi) nx sd = ([], ⟨0, 0, nx, sd⟩, y) := by
  have hsI : scanI b base seed = scanL b (b.length + 1) ⟨0, 0, base, seed⟩ := by unfold scanI; rw [if_neg (by omega)]; rfl
  have hrl := scanI_len b base seed
  obtain ⟨e1, e2, e3, e4, e5⟩ := scan_end b (b.length + 1) ⟨0, 0, base, seed⟩ (by simp only; omega) (by simp only; omega)
  have esd := scan_sd b (b.length + 1) ⟨0, 0, base, seed⟩ hsd
  obtain ⟨enx1, enx2⟩ := scan_nxt b (b.length + 1) ⟨0, 0, base, seed⟩ h1 g2
  have ewy := scanL_why b (b.length + 1) ⟨0, 0, base, seed⟩
  obtain ⟨t1, t2, t3⟩ := scan_take b (b.length + 1) ⟨0, 0, base, seed⟩ _ rfl (by simp only; omega) (by simp only; omega)
  rw [hsI] at hrl ⊢
  generalize scanL b (b.length + 1) ⟨0, 0, base, seed⟩ = r at *
  obtain ⟨recs, ⟨cn, fi, nx, sd⟩, y⟩ := r
  simp only at e1 e2 e3 e4 e5 esd enx1 enx2 ewy t1 t2 t3 hrl
  refine ⟨recs, cn, fi, nx, sd, y, rfl, e3, by omega, by omega, enx1, enx2, esd, ewy.2, ?_, ?_⟩
  · have hf := scanL_fuel (b.take fi) ((b.take fi).length + 1) (b.length + 1) ⟨0, 0, base, seed⟩ (by simp only; omega) (by rw [List.length_take]; omega)
    refine ⟨recs, ?_⟩
    unfold scanI
    rw [if_neg (by omega), show (base : Int).toNat = base from rfl, ← hf]
    exact Prod.ext t1 (Prod.ext t2 t3)
  · unfold scanI
    rw [if_neg (by omega), show (nx : Int).toNat = nx from rfl]
    exact scan_drop b ⟨cn, fi, nx, sd⟩ y e1 e3 _

set_option maxRecDepth 100000 in
set_option maxHeartbeats 8000000 in
theorem again_main (b : List UInt8) (A : Option Addr) (n c : Nat) (base : Nat) (seed : Nat) (w : World) (hl : b.length = n) (hn : n ≤ 131072) (hc : n ≤ c) (hr : Rd w A (bv b)) (hsd : seed < 4294967296) (h1 : 1 ≤ base) (g2 : base ≤ 9223372036854775807) :
    Calls Try.prog 9 #[.slice A n c, .int .i64 base, .int .u32 seed] w (EqRP w true) := by
  have b1 : decide ((base : Int) < 1) = false := by simp; omega
  have b2 : decide ((131072 : Int) < (n : Int)) = false := by simp; omega
  go_enter Try.func9, Try.ntmps9
  go_wp2_with fail
  refine (sbegun_any w).mono ?_
  rintro e w1 ⟨rfl, hb1⟩
  have hr1 := hr.keep hb1
  go_wp2_with fail
  refine (over_all b A n c base seed w1 hl (by omega) hc hr1 hsd (by omega)).mono ?_
  obtain ⟨recs, cn, fi, nx, sd, y, hS, hfi, hcn, hc16, hnx1, hnx2, hsd2, hy6, ⟨r', hS1⟩, hS2⟩ := again_facts b base seed hsd h1 g2
  rw [hS]
  rintro e w2 ⟨rfl, hb2⟩
  have HS := Lib.hid hS
  have HS1 := Lib.hid hS1
  have HS2 := Lib.hid hS2
  have HL := Lib.hid hl
  have HCN := Lib.hid hcn
  have hfn : fi ≤ n := by omega
  have hcn16 : cn * 16 ≤ n := by omega
  have hsl := run_slice_hi A n c fi (by omega)
  have hb3 : Below w2.heap.size w2 (w2.alloc (Obj.cells (scv ⟨cn, fi, nx, sd⟩ y) 57)) := (Below.refl _ _).alloc (Nat.le_refl _) _
  have q3 : (w2.alloc (Obj.cells (scv ⟨cn, fi, nx, sd⟩ y) 57)).heap[w2.heap.size]? = some (.cells (scv ⟨cn, fi, nx, sd⟩ y) 57 (0, 0)) := heap_alloc_new _ _
  have hb13 := thn hb2 hb3
  have hr3 := hr1.keep hb13
  have hbw3 := hb1.trans (hb13.mono hb1.size)
  simp only [scv] at hb3 q3 hb13 hr3 hbw3 ⊢
  clear hS hS1 hS2 hl hcn hfi hc16 hb1 hb2 hr1 hr
  go_wp2_with fail
  clear hsl
  generalize (w2.alloc _) = w3 at *
  have htl : (b.take fi).length = fi := by rw [List.length_take, HL.out]; omega
  have hrt : Rd w3 A (bv (b.take fi)) := by rw [show bv (b.take fi) = (bv b).take fi from by simp [bv, List.map_take]]; exact hr3.take
  refine (over_all (b.take fi) A fi c base seed w3 htl (by omega) (by omega) hrt hsd (by omega)).mono ?_
  rw [HS1.out]
  rintro e w4 ⟨rfl, hb4⟩
  have hb5 : Below w4.heap.size w4 (w4.alloc (Obj.cells (scv ⟨cn, fi, nx, sd⟩ 1) 57)) := (Below.refl _ _).alloc (Nat.le_refl _) _
  have q5 : (w4.alloc (Obj.cells (scv ⟨cn, fi, nx, sd⟩ 1) 57)).heap[w4.heap.size]? = some (.cells (scv ⟨cn, fi, nx, sd⟩ 1) 57 (0, 0)) := heap_alloc_new _ _
  have hb35 := thn hb4 hb5
  have hr5 := hr3.keep hb35
  have hbw5 := hbw3.trans (hb35.mono hbw3.size)
  have p5 := (hb35.block _ (Array.getElem?_eq_some_iff.1 q3).1).trans q3
  clear htl hrt hb3 q3 hb13 hr3 hbw3 hb4 
  simp only [scv] at hb5 q5 hb35 hr5 hbw5 p5 ⊢
  go_wp2_with fail
  generalize (w4.alloc _) = w5 at *
  have k0 := cell_of_row _ _ 0 _ _ _ p5
  have k1 := cell_of_row _ _ 1 _ _ _ p5
  have k2 := cell_of_row _ _ 2 _ _ _ p5
  have k3 := cell_of_row _ _ 3 _ _ _ p5
  have k4 := cell_of_row _ _ 4 _ _ _ p5
  simp at k0 k1 k2 k3 k4
  have hna : w2.heap.size ≠ w5.heap.size := Nat.ne_of_lt (Array.getElem?_eq_some_iff.1 p5).1
  obtain ⟨A2, hA2⟩ : ∃ A2, A2 = if c = fi then A else A.map (·.add fi) := ⟨_, rfl⟩
  have hrd := rd_drop hr5 hA2 HL.out hc
  have hdl : (b.drop fi).length = n - fi := by rw [List.length_drop, HL.out]
  have HA2 := Lib.hid hA2
  have HDL := Lib.hid hdl
  have hsl : ∀ W, (Instr.sliceAt 31 (.slice A n c) (some (.int .i64 (fi : Int))) none none).run Try.prog W = .ok (.slice A2 (n - fi) (c - fi)) W := fun W => run_slice_lo A A2 n c fi hfn HA2.out W
  have hrd1 : Rd w5.drew A2 (bv (b.drop fi)) := hrd
  have hrd2 : Rd (w5.alloc (Obj.cells #[.int .i64 0, .int .i64 0, .int .i64 0, .int .u32 0, .int .i64 0] 57)).drew A2 (bv (b.drop fi)) := hrd.keep (below_alloc_drew w5 _)
  have hx1 : n - fi ≤ 100000000 := by omega
  have hx2 : n - fi ≤ c - fi := by omega
  have hx3 : (nx : Int) ≤ 9223372036854775807 := by omega
  clear hA2 hdl hb5 hb35
  have kd1 : w5.drew.cell? ⟨w2.heap.size, 1, none⟩ = some (.int .i64 fi) := k1
  have ka1 : (w5.alloc (Obj.cells #[.int .i64 0, .int .i64 0, .int .i64 0, .int .u32 0, .int .i64 0] 57)).drew.cell? ⟨w2.heap.size, 1, none⟩ = some (.int .i64 fi) := keep_cell (below_alloc_drew w5 _) k1
  have kd2 : w5.drew.cell? ⟨w2.heap.size, 2, none⟩ = some (.int .i64 nx) := k2
  have ka2 : (w5.alloc (Obj.cells #[.int .i64 0, .int .i64 0, .int .i64 0, .int .u32 0, .int .i64 0] 57)).drew.cell? ⟨w2.heap.size, 2, none⟩ = some (.int .i64 nx) := keep_cell (below_alloc_drew w5 _) k2
  have kd3 : w5.drew.cell? ⟨w2.heap.size, 3, none⟩ = some (.int .u32 sd) := k3
  have ka3 : (w5.alloc (Obj.cells #[.int .i64 0, .int .i64 0, .int .i64 0, .int .u32 0, .int .i64 0] 57)).drew.cell? ⟨w2.heap.size, 3, none⟩ = some (.int .u32 sd) := keep_cell (below_alloc_drew w5 _) k3
  clear k0 k4
  go_region_held3 (fun w' => w'.cell? ⟨w2.heap.size, 1, none⟩ = some (.int .i64 fi) ∧ w'.cell? ⟨w2.heap.size, 2, none⟩ = some (.int .i64 nx) ∧ w'.cell? ⟨w2.heap.size, 3, none⟩ = some (.int .u32 sd)) (first | with_reducible exact ⟨kd1, kd2, kd3⟩ | with_reducible exact ⟨ka1, ka2, ka3⟩ | with_reducible exact ⟨keep_cell hb6 kd1, keep_cell hb6 kd2, keep_cell hb6 kd3⟩ | with_reducible exact ⟨keep_cell hb6 ka1, keep_cell hb6 ka2, keep_cell hb6 ka3⟩ | with_reducible exact ⟨keep_cell ((Below.refl _ _).alloc (Nat.le_refl _) _) (keep_cell hb6 kd1), keep_cell ((Below.refl _ _).alloc (Nat.le_refl _) _) (keep_cell hb6 kd2), keep_cell ((Below.refl _ _).alloc (Nat.le_refl _) _) (keep_cell hb6 kd3)⟩ | with_reducible exact ⟨keep_set5 hna (keep_cell hb6 ka1), keep_set5 hna (keep_cell hb6 ka2), keep_set5 hna (keep_cell hb6 ka3)⟩)
    (first
      | (go_at_call 30; (with_reducible refine (over_all (b.drop fi) A2 (n - fi) (c - fi) nx sd w5.drew HDL.out hx1 hx2 hrd1 hsd2 hx3).mono ?_); rw [HS2.out]; rintro e w6 ⟨rfl, hb6⟩; simp only [scv])
      | (go_at_call 30; (with_reducible refine (over_all (b.drop fi) A2 (n - fi) (c - fi) nx sd _ HDL.out hx1 hx2 hrd2 hsd2 hx3).mono ?_); rw [HS2.out]; rintro e w6 ⟨rfl, hb6⟩; simp only [scv]
         have hz6 : w6.heap[w5.heap.size]? = some (.cells #[.int .i64 0, .int .i64 0, .int .i64 0, .int .u32 0, .int .i64 0] 57 (0, 0)) := (hb6.block _ (by show w5.heap.size < (w5.alloc _).heap.size; simp)).trans (heap_alloc_new w5 _)
         have z0 := cell_of_row _ _ 0 _ _ _ hz6
         have z1 := cell_of_row _ _ 1 _ _ _ hz6
         have z2 := cell_of_row _ _ 2 _ _ _ hz6
         have z3 := cell_of_row _ _ 3 _ _ _ hz6
         have z4 := cell_of_row _ _ 4 _ _ _ hz6
         have y0 := frozen_of_row _ _ 0 _ _ hz6
         have y1 := frozen_of_row _ _ 1 _ _ hz6
         have y2 := frozen_of_row _ _ 2 _ _ hz6
         have y3 := frozen_of_row _ _ 3 _ _ hz6
         have y4 := frozen_of_row _ _ 4 _ _ hz6))
  focus
    obtain ⟨p8, hb8⟩ := gotS_a #[.int .i64 ((0 : Nat) : Int), .int .i64 ((0 : Nat) : Int), .int .i64 nx, .int .u32 sd, .int .i64 y] hb6
    obtain ⟨g8, hge⟩ : ∃ x, x = w6.heap.size := ⟨_, rfl⟩
    rw [← hge] at p8 ⊢
    generalize (w6.alloc _) = w8 at p8 hb8 ⊢
    clear hge hb6
  rotate_left
  focus
    obtain ⟨p8, hb8⟩ := gotS_b (y0 := .int .i64 ((0 : Nat) : Int)) (y1 := .int .i64 ((0 : Nat) : Int)) (y2 := .int .i64 nx) (y3 := .int .u32 sd) (y4 := .int .i64 y) rfl hb6
    obtain ⟨g8, hge⟩ : ∃ x, x = w5.heap.size := ⟨_, rfl⟩
    generalize (((((w6.setCell ⟨w5.heap.size, 0, none⟩ _).setCell ⟨w5.heap.size, 1, none⟩ _).setCell ⟨w5.heap.size, 2, none⟩ _).setCell ⟨w5.heap.size, 3, none⟩ _).setCell ⟨w5.heap.size, 4, none⟩ _) = w8 at p8 hb8 ⊢
    rw [← hge] at p8 ⊢
    clear hge hb6 hz6 z0 z1 z2 z3 z4 y0 y1 y2 y3 y4
  all_goals
    have ro := (hb8.block _ (Array.getElem?_eq_some_iff.1 p5).1).trans p5
    have rp := (hb8.block _ (Array.getElem?_eq_some_iff.1 q5).1).trans q5
    have hr8' := hr5.keep hb8
    have hr8 : Rd w8.drew A (bv b) := hr8'
    have hbw8 := hbw5.trans (hb8.mono hbw5.size)
    rw [show ((0 : Nat) : Int) = 0 from rfl] at p8
    rw [show ((1 : Nat) : Int) = 1 from rfl] at rp
    have ko0 : w8.drew.cell? ⟨w2.heap.size, 0, none⟩ = some (.int .i64 cn) := cell_of_row _ _ 0 _ _ _ ro
    have ko1 : w8.drew.cell? ⟨w2.heap.size, 1, none⟩ = some (.int .i64 fi) := cell_of_row _ _ 1 _ _ _ ro
    have ko2 : w8.drew.cell? ⟨w2.heap.size, 2, none⟩ = some (.int .i64 nx) := cell_of_row _ _ 2 _ _ _ ro
    have ko3 : w8.drew.cell? ⟨w2.heap.size, 3, none⟩ = some (.int .u32 sd) := cell_of_row _ _ 3 _ _ _ ro
    have ko4 : w8.drew.cell? ⟨w2.heap.size, 4, none⟩ = some (.int .i64 y) := cell_of_row _ _ 4 _ _ _ ro
    have kp0 : w8.drew.cell? ⟨w4.heap.size, 0, none⟩ = some (.int .i64 cn) := cell_of_row _ _ 0 _ _ _ rp
    have kp1 : w8.drew.cell? ⟨w4.heap.size, 1, none⟩ = some (.int .i64 fi) := cell_of_row _ _ 1 _ _ _ rp
    have kp2 : w8.drew.cell? ⟨w4.heap.size, 2, none⟩ = some (.int .i64 nx) := cell_of_row _ _ 2 _ _ _ rp
    have kp3 : w8.drew.cell? ⟨w4.heap.size, 3, none⟩ = some (.int .u32 sd) := cell_of_row _ _ 3 _ _ _ rp
    have kp4 : w8.drew.cell? ⟨w4.heap.size, 4, none⟩ = some (.int .i64 1) := cell_of_row _ _ 4 _ _ _ rp
    have kq0 : w8.drew.cell? ⟨g8, 0, none⟩ = some (.int .i64 0) := cell_of_row _ _ 0 _ _ _ p8
    have kq4 : w8.drew.cell? ⟨g8, 4, none⟩ = some (.int .i64 y) := cell_of_row _ _ 4 _ _ _ p8
    have hy1 : n ≤ 100000000 := by omega
    have hy2 : (base : Int) ≤ 9223372036854775807 := by omega
    have hrl : (((scanI b base seed).1.take 1073741824).map (·.2)).length = cn := by
      rw [HS.out, List.length_map, List.length_take, HCN.out]
      have := HCN.out
      simp only
      omega
    have HRL := Lib.hid hrl
    clear hrl hsl hrd hrd1 hrd2 k1 k2 k3 kd1 kd2 kd3 ka1 ka2 ka3 ro rp p8 p5 q5 hna hr5
    go_wp2_with fail
    go_region_held3 (fun w' => w'.cell? ⟨w2.heap.size, 0, none⟩ = some (.int .i64 cn) ∧ w'.cell? ⟨w2.heap.size, 1, none⟩ = some (.int .i64 fi) ∧ w'.cell? ⟨w2.heap.size, 2, none⟩ = some (.int .i64 nx) ∧ w'.cell? ⟨w2.heap.size, 3, none⟩ = some (.int .u32 sd) ∧ w'.cell? ⟨w2.heap.size, 4, none⟩ = some (.int .i64 y) ∧ w'.cell? ⟨w4.heap.size, 0, none⟩ = some (.int .i64 cn) ∧ w'.cell? ⟨w4.heap.size, 1, none⟩ = some (.int .i64 fi) ∧ w'.cell? ⟨w4.heap.size, 2, none⟩ = some (.int .i64 nx) ∧ w'.cell? ⟨w4.heap.size, 3, none⟩ = some (.int .u32 sd) ∧ w'.cell? ⟨w4.heap.size, 4, none⟩ = some (.int .i64 1) ∧ w'.cell? ⟨g8, 0, none⟩ = some (.int .i64 0) ∧ w'.cell? ⟨g8, 4, none⟩ = some (.int .i64 y)) (first | with_reducible exact ⟨ko0, ko1, ko2, ko3, ko4, kp0, kp1, kp2, kp3, kp4, kq0, kq4⟩ | with_reducible exact ⟨keep_cell hb9 ko0, keep_cell hb9 ko1, keep_cell hb9 ko2, keep_cell hb9 ko3, keep_cell hb9 ko4, keep_cell hb9 kp0, keep_cell hb9 kp1, keep_cell hb9 kp2, keep_cell hb9 kp3, keep_cell hb9 kp4, keep_cell hb9 kq0, keep_cell hb9 kq4⟩)
      (first
        | (go_at_call 31; (with_reducible refine (recs_at seed 1073741824 seed 1073741824 rfl rfl b A n c base w8.drew HL.out hy1 hr8 hsd hy2 (by omega)).mono ?_); rintro e w9 ⟨v, rfl, hR, hb9⟩; obtain ⟨A9, c9, rfl⟩ := hR.val; rw [HRL.out]))
    go_wp2_with fail
    go_ret
    exact ⟨rfl, (hbw8.trans (drewN_below _ w8 1)).trans (hb9.mono hbw8.size)⟩

set_option maxRecDepth 100000 in
theorem again_any (b : List UInt8) (A : Option Addr) (n c : Nat) (base : Int) (seed : Nat) (w : World) (hl : b.length = n) (hc : n ≤ c) (hm : c ≤ 9223372036854775807) (hr : Rd w A (bv b)) (hsd : seed < 4294967296) (g2 : base ≤ 9223372036854775807) :
    Calls Try.prog 9 #[.slice A n c, .int .i64 base, .int .u32 seed] w (EqRP w true) := by
  by_cases hn : n ≤ 131072
  · by_cases h1 : base < 1
    · exact again_low A n c base seed w hn h1
    · obtain ⟨bs, rfl⟩ := Int.eq_ofNat_of_zero_le (a := base) (by omega)
      exact again_main b A n c bs seed w hl hn hc hr hsd (by omega) (by omega)
  · have b2 : decide ((131072 : Int) < (n : Int)) = true := by simp; omega
    go_enter Try.func9, Try.ntmps9
    go_wp2_with fail
    refine (sbegun_any w).mono ?_
    rintro e w1 ⟨rfl, hb1⟩
    go_wp2_with fail
    go_ret
    exact ⟨rfl, hb1⟩
end Go.Proofs.Ytdfabjkffjacoaa
