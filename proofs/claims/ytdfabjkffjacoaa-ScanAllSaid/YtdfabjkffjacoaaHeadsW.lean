/- Walk: flumelaw6.FrameHeads. -/
import Derived.Test.YtdfabjkffjacoaaRRHead
import Derived.Test.YtdfabjkffjacoaaChainW
import Derived.Deep.Slices
namespace Go.Proofs.Ytdfabjkffjacoaa
open Go.RowKit

/-- a slice of heads -/
structure Heads (w : World) (A : Option Addr) (n : Nat) (hs : List (Int × Int × Nat)) : Prop where
  hlen : hs.length = n
  each : ∀ i (h : i < hs.length), -9223372036854775808 ≤ hs[i].1 ∧ hs[i].1 < 9223372036854775808 ∧ -9223372036854775808 ≤ hs[i].2.1 ∧ hs[i].2.1 < 9223372036854775808 ∧ hs[i].2.2 < 4294967296 ∧
    ∃ ad, A = some ad ∧ w.cell? (ad.add (i * 3)) = some (.int .i64 hs[i].1) ∧ w.cell? (ad.add (i * 3 + 1)) = some (.int .i64 hs[i].2.1) ∧ w.cell? (ad.add (i * 3 + 2)) = some (.int .u32 hs[i].2.2)
theorem Heads.keep {w w' : World} {A : Option Addr} {n : Nat} {hs : List (Int × Int × Nat)} (h : Heads w A n hs) (hb : Below w.heap.size w w') : Heads w' A n hs :=
  ⟨h.hlen, fun i hi => by
    obtain ⟨h1, h2, h3, h4, h5, ad, hA, c0, c1, c2⟩ := h.each i hi
    exact ⟨h1, h2, h3, h4, h5, ad, hA, (hb.cell (World.block_lt_of_cell? w _ c0)).trans c0, (hb.cell (World.block_lt_of_cell? w _ c1)).trans c1, (hb.cell (World.block_lt_of_cell? w _ c2)).trans c2⟩⟩


theorem rd_pre {w : World} {A : Option Addr} {l m : List UInt8} (h : Rd w A (bv (l ++ m))) : Rd w A (bv l) := by
  have := h.take (k := l.length)
  rw [bv_append, List.take_left' (bv_length _)] at this
  exact this
theorem lent_apart {w w1 : World} {A D : Option Addr} {n c : Nat} {l : List UInt8} (ho : Own w.heap.size w1 A n c (l ++ marks)) (hr : Rd w D (bv l)) : ∀ ad ad', A = some ad → D = some ad' → l ≠ [] → ad.block ≠ ad'.block := fun ad ad' h1 h2 h3 => by
  have := (ho.lt ad h1).1
  have := hr.lt (by intro h; exact h3 (by simpa [bv] using h)) ad' h2
  omega

theorem rhead_of_whead (nm base : Int) (seed : Nat) (g2 : nm < 9223372036854775808) (g4 : base < 9223372036854775808) (hs : seed < 4294967296) :
    (∃ l S, whead nm base seed = (l, S, 0) ∧ S < 4294967296 ∧ ∃ N B : Nat, nm = N ∧ base = B ∧ rhead l = ((N, B, seed), S, 0)) ∨ whead nm base seed = ([], 0, 1) := by
  by_cases h : nm < 1 ∨ base < 1
  · exact .inr (by rw [whead, if_pos h])
  · obtain ⟨N, rfl⟩ := Int.eq_ofNat_of_zero_le (a := nm) (by omega)
    obtain ⟨B, rfl⟩ := Int.eq_ofNat_of_zero_le (a := base) (by omega)
    refine .inl ⟨_, _, by rw [whead, if_neg h], csum_lt _, N, B, rfl, rfl, ?_⟩
    have := rhead_whead N B seed [] (by omega) (by omega) (by omega) (by omega) hs
    rw [List.append_nil] at this
    exact this

set_option maxRecDepth 100000 in
set_option maxHeartbeats 4000000 in
theorem heads_any (A1 A2 : Option Addr) (n1 c1 n2 c2 : Nat) (hs : List (Int × Int × Nat)) (vs : List Value) (ls : List (List UInt8)) (w : World) (hh : Heads w A1 n1 hs) (hd : Datas w A2 n2 vs ls)
    (hn1 : n1 ≤ 9223372036854775807) (hn2 : n2 ≤ 9223372036854775807) (hb : ∀ d ∈ ls, d.length ≤ 1048576) :
    Calls Try.prog 6 #[.slice A1 n1 c1, .slice A2 n2 c2] w (EqRP w true) := by
  go_enter Try.func6, Try.ntmps6
  go_wp2_with fail
  refine (begun_any w).mono ?_
  rintro e W1 ⟨rfl, hb1⟩
  go_wp2_with fail
  go_loopw [5, 6, 7, 8, 9, 10, 11, 12, 13, 14] (fun i _ _ _ _ _ _ _ _ _ wr => ∃ (k : Nat), k ≤ n1 ∧ i = .int .i64 k ∧ Below w.heap.size w wr) (fun i _ _ _ _ _ _ _ _ _ _ => n1 - (intOf i).toNat)
  case atStart => exact ⟨0, by omega, rfl, hb1⟩
  case round =>
    obtain ⟨k, hk, rfl, hbr⟩ := hrel
    by_cases hlt : k < n1
    · obtain ⟨g1, g2, g3, g4, g5, ad, rfl, e0, e1, e2⟩ := (hh.keep hbr).each k (by have := hh.hlen; omega)
      generalize hs[k]'(by have := hh.hlen; omega) = hd3 at *
      obtain ⟨nm, base, seed⟩ := hd3
      simp only at g1 g2 g3 g4 g5 e0 e1 e2
      have hk0 : (0 : Int) ≤ (k : Int) := by omega
      have hk1 : (k : Int) < (n1 : Int) := by omega
      have e1' : wr.cell? ⟨(ad.add (k * 3)).block, (ad.add (k * 3)).off + 1, none⟩ = some (.int .i64 base) := by rw [← Deep.add_add] at e1; exact e1
      have e2' : wr.cell? ⟨(ad.add (k * 3)).block, (ad.add (k * 3)).off + 2, none⟩ = some (.int .u32 seed) := by rw [← Deep.add_add] at e2; exact e2
      have e0' := e0
      clear e0 e1 e2
      go_wp2_with fail
      refine (whead_any nm base seed g1 g2 g3 g4 g5 wr).mono ?_
      rintro e W2 ⟨A2, m2, k2, rfl, ho2, hb2⟩
      have e02 := keep_cell hb2 e0'
      have e12 := keep_cell hb2 e1'
      have e22 := keep_cell hb2 e2'
      go_wp2_with fail
      refine (rwhead_any nm base seed g1 g2 g3 g4 g5 W2).mono ?_
      rintro e W3 ⟨A3, m3, k3, rfl, ho3, hb3⟩
      have e03 := keep_cell hb3 e02
      have e13 := keep_cell hb3 e12
      have e23 := keep_cell hb3 e22
      have ho23 := ho2.keep hb3
      have hm2 := ho2.len
      have hm3 := ho3.len
      have hm : m3 = m2 := by omega
      subst hm
      have hbr3 := thn hbr (thn hb2 hb3)
      have hm3' : m3 ≤ 9223372036854775807 := by have := ho3.cap_le; have := ho3.cap_max; omega
      have heq : eqB (whead nm base seed).1 (whead nm base seed).1 = true := by simp [eqB]
      clear e0' e1' e2' e02 e12 e22
      go_wp2_with fail
      refine (eq_any _ _ m3 m3 hm2 hm2 hm3' A2 A3 k2 k3 W3 ho23.rd ho3.rd).mono ?_
      rw [heq]
      rintro e W4 ⟨rfl, q4, rfl⟩
      have hb4 := drewN_below W3.heap.size W3 q4
      have e04 := keep_cell hb4 e03
      have e14 := keep_cell hb4 e13
      have e24 := keep_cell hb4 e23
      have ho4 := ho23.keep hb4
      have hbr4 := thn hbr3 hb4
      generalize W3.drewN q4 = W4 at *
      clear e03 e13 e23 hb4 ho23 ho3 ho2 hbr3 hb3 hb2 heq hm3
      have hcw := rhead_of_whead nm base seed g2 g4 g5
      go_wp2_with fail
      refine (rhead_any _ m3 hm2 hm3' A2 k2 ho4.cap_le W4 ho4.rd).mono ?_
      rintro e W5 ⟨rfl, hb5⟩
      have hbr5 := thn hbr4 hb5
      have hb56 : ∀ o, Below W5.heap.size W5 (W5.alloc o) := fun o => (Below.refl _ _).alloc (Nat.le_refl _) _
      have e05 := keep_cell hb5 e04
      have e15 := keep_cell hb5 e14
      have e25 := keep_cell hb5 e24
      rcases hcw with ⟨l, S, hw, hS, N, B, rfl, rfl, hrh⟩ | hw
      · rw [hw] at *
        simp only at *
        rw [hrh] at *
        simp only at *
        have hv6 : (W5.alloc (Obj.cells #[.int .i64 N, .int .i64 B, .int .u32 seed] 50)).heap[W5.heap.size]? = some (.cells #[.int .i64 N, .int .i64 B, .int .u32 seed] 50 (0, 0)) := heap_alloc_new W5 _
        have d0 := cell_of_row _ _ 0 _ _ _ hv6
        have d1 := cell_of_row _ _ 1 _ _ _ hv6
        have d2 := cell_of_row _ _ 2 _ _ _ hv6
        have hbb := hb56 (Obj.cells #[.int .i64 N, .int .i64 B, .int .u32 seed] 50)
        have hbr6 := thn hbr5 hbb
        have e06 := keep_cell hbb e05
        have e16 := keep_cell hbb e15
        have e26 := keep_cell hbb e25
        clear hw hrh
        go_wp2_with fail
        go_quiet (fail)
        go_wp2_with fail
        exact ⟨⟨k + 1, by omega, by go_num, hbr6.trans (drewN_below _ _ _)⟩, by simp [intOf]; omega⟩
      · rw [hw] at *
        simp only at *
        generalize hre : rhead [] = r at *
        obtain ⟨⟨x1, x2, x3⟩, x4, x5⟩ := r
        have hbb := hb56 (Obj.cells #[.int .i64 x1, .int .i64 x2, .int .u32 x3] 50)
        have hbr6 := thn hbr5 hbb
        clear hw hre
        go_wp2_with fail
        go_quiet (fail)
        go_wp2_with fail
        exact ⟨⟨k + 1, by omega, by go_num, hbr6.trans (drewN_below _ _ _)⟩, by simp [intOf]; omega⟩
    · obtain rfl : k = n1 := by omega
      go_wp2_with fail
      go_loopw [15, 16, 17, 18, 19, 20, 21, 22] (fun i _ _ _ _ _ _ _ wr => ∃ (k : Nat), k ≤ n2 ∧ i = .int .i64 k ∧ Below w.heap.size w wr) (fun i _ _ _ _ _ _ _ _ => n2 - (intOf i).toNat)
      case atStart => exact ⟨0, by omega, rfl, hbr⟩
      case round =>
        obtain ⟨q, hq, rfl, hbq⟩ := hrel
        by_cases hlt2 : q < n2
        · obtain ⟨ad, D, cd, rfl, hcell, hD1, hD2, hD3⟩ := (hd.keep hbq).at_ q (by have := hd.llen; omega)
          have hdb := hb (ls[q]'(by have := hd.llen; omega)) (List.getElem_mem _)
          generalize ls[q]'(by have := hd.llen; omega) = d at *
          have hk0 : (0 : Int) ≤ (q : Int) := by omega
          have hk1 : (q : Int) < (n2 : Int) := by omega
          go_wp2_with fail
          refine (lent_any d d.length cd rfl (by omega) D wr hD3).mono ?_
          rintro e W2 ⟨A3, c3, rfl, ho2, hb2⟩
          have hc3 := ho2.cap_le
          have cell2 := keep_cell hb2 hcell
          have hap := lent_apart ho2 hD3
          go_wp2_with fail
          refine (rhead_any d d.length rfl (by omega) A3 c3 (by omega) W2 (rd_pre ho2.rd)).mono ?_
          rintro e W3 ⟨rfl, hb3⟩
          generalize hre : rhead d = r at *
          obtain ⟨⟨x1, x2, x3⟩, x4, x5⟩ := r
          have HR := Lib.hid hre
          clear hre
          have hbb : ∀ (W5 : World) o, Below W5.heap.size W5 (W5.alloc o) := fun W5 o => (Below.refl _ _).alloc (Nat.le_refl _) _
          have hb4 := hbb W3 (Obj.cells #[.int .i64 x1, .int .i64 x2, .int .u32 x3] 50)
          have hb23 := thn hb2 (thn hb3 hb4)
          have cell4 := keep_cell (thn hb3 hb4) cell2
          have ho4 := ho2.keep (thn hb3 hb4)
          have p4 : (W3.alloc (Obj.cells #[.int .i64 x1, .int .i64 x2, .int .u32 x3] 50)).heap[W3.heap.size]? = some (Obj.cells #[.int .i64 x1, .int .i64 x2, .int .u32 x3] 50 (0, 0)) := heap_alloc_new W3 _
          clear hcell cell2 hbb hb3 hb2
          go_wp2_with fail
          generalize (W3.alloc (Obj.cells #[.int .i64 x1, .int .i64 x2, .int .u32 x3] 50)) = W4 at *
          clear hb4
          have hD4 := hD3.keep hb23
          refine (rrhead_any d d.length rfl (by omega) D cd (by omega) W4 hD4).mono ?_
          rw [HR.out]
          rintro e W5 ⟨rfl, hb5⟩
          have hbb : ∀ (W5 : World) o, Below W5.heap.size W5 (W5.alloc o) := fun W5 o => (Below.refl _ _).alloc (Nat.le_refl _) _
          have hb6 := hbb W5 (Obj.cells #[.int .i64 x1, .int .i64 x2, .int .u32 x3] 50)
          have hb56 := thn hb5 hb6
          have cell6 := keep_cell hb56 cell4
          have ho6 := ho4.keep hb56
          have p6 : (W5.alloc (Obj.cells #[.int .i64 x1, .int .i64 x2, .int .u32 x3] 50)).heap[W5.heap.size]? = some (Obj.cells #[.int .i64 x1, .int .i64 x2, .int .u32 x3] 50 (0, 0)) := heap_alloc_new W5 _
          have q6 := (hb56.block _ (Array.getElem?_eq_some_iff.1 p4).1).trans p4
          have s0 := cell_of_row _ _ 0 _ _ _ p6
          have s1 := cell_of_row _ _ 1 _ _ _ p6
          have s2 := cell_of_row _ _ 2 _ _ _ p6
          have t0 := cell_of_row _ _ 0 _ _ _ q6
          have t1 := cell_of_row _ _ 1 _ _ _ q6
          have t2 := cell_of_row _ _ 2 _ _ _ q6
          have hD6 := hD4.keep hb56
          have hb26 := thn hb23 hb56
          clear cell4 hbb hb5 hb6 HR hb23 hb56 p4 p6 q6 ho4 hD4
          go_wp2_with fail
          generalize (W5.alloc (Obj.cells #[.int .i64 x1, .int .i64 x2, .int .u32 x3] 50)) = W6 at *
          refine (back_ok d d.length c3 cd rfl (by omega) A3 D wr.heap.size W6 ho6 hD6 hap).mono ?_
          rintro e W7 ⟨rfl, hg7⟩
          have hb7 := hb26.trans (below_grown hg7 hb26.size fun ad h => (ho6.lt ad h).1)
          have hb07 := thn hbq hb7
          clear s0 s1 s2 t0 t1 t2
          go_wp2_with fail
          exact ⟨⟨q + 1, by omega, by go_num, hb07⟩, by simp [intOf]; omega⟩
        · go_wp2_with fail
          go_ret
          exact ⟨rfl, hbq⟩
end Go.Proofs.Ytdfabjkffjacoaa
