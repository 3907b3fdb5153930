/- Walk: flumelaw6.FrameReads. -/
import Derived.Test.YtdfabjkffjacoaaAllW
import Derived.Test.YtdfabjkffjacoaaRef
namespace Go.Proofs.Ytdfabjkffjacoaa
open Go.RowKit

theorem fread_len (seed : Nat) (d : List UInt8) : (fread seed d).2.1.length ≤ d.length := by
  rcases fread_cases seed d with ⟨k, _, _, h⟩ | ⟨L, d', N, h, _, _, _, _, _, _⟩
  · rw [h]; simp
  · rw [h]; simp only; omega

theorem keep_set2 {w : World} {p : Nat} {v0 v1 v : Value} {a : Addr} (h : a.block ≠ p) (hc : w.cell? a = some v) : ((w.setCell ⟨p, 0, none⟩ v0).setCell ⟨p, 1, none⟩ v1).cell? a = some v :=
  (only_set _ p 1 v1).cell h ((only_set w p 0 v0).cell h hc)
/-- a record read: a new row that holds it, its bytes of one's own -/
theorem got_a {W w6 : World} {A : Option Addr} {n c : Nat} {l : List UInt8} (L : Int) (hb : Below W.drew.heap.size W.drew w6) (ho : Own W.drew.heap.size w6 A n c l) :
    (w6.alloc (.cells #[.int .i64 L, .slice A n c] 34)).heap[w6.heap.size]? = some (.cells #[.int .i64 L, .slice A n c] 34 (0, 0)) ∧
      Below W.heap.size W (w6.alloc (.cells #[.int .i64 L, .slice A n c] 34)) ∧ Own W.heap.size (w6.alloc (.cells #[.int .i64 L, .slice A n c] 34)) A n c l ∧ W.heap.size ≤ w6.heap.size := by
  have h1 : Below W.heap.size W w6 := (drewN_below W.heap.size W 1).trans hb
  exact ⟨heap_alloc_new _ _, h1.alloc h1.size _, ho.alloc _, h1.size⟩
theorem got_b {W w6 : World} {z : Obj} {A : Option Addr} {n c : Nat} {l : List UInt8} {x0 x1 : Value} (L : Int) (hz : z = .cells #[x0, x1] 34 (0, 0)) (hb : Below (W.alloc z).drew.heap.size (W.alloc z).drew w6) (ho : Own (W.alloc z).drew.heap.size w6 A n c l) :
    ((w6.setCell ⟨W.heap.size, 0, none⟩ (.int .i64 L)).setCell ⟨W.heap.size, 1, none⟩ (.slice A n c)).heap[W.heap.size]? = some (.cells #[.int .i64 L, .slice A n c] 34 (0, 0)) ∧
      Below W.heap.size W ((w6.setCell ⟨W.heap.size, 0, none⟩ (.int .i64 L)).setCell ⟨W.heap.size, 1, none⟩ (.slice A n c)) ∧ Own W.heap.size ((w6.setCell ⟨W.heap.size, 0, none⟩ (.int .i64 L)).setCell ⟨W.heap.size, 1, none⟩ (.slice A n c)) A n c l ∧ W.heap.size ≤ W.heap.size := by
  subst hz
  have hlt : W.heap.size < (W.alloc (.cells #[x0, x1] 34 (0, 0))).drew.heap.size := by show _ < (W.alloc _).heap.size; simp
  have h0 : w6.heap[W.heap.size]? = some (.cells #[x0, x1] 34 (0, 0)) := (hb.block _ hlt).trans (heap_alloc_new W _)
  have h1 : (w6.setCell ⟨W.heap.size, 0, none⟩ (.int .i64 L)).heap[W.heap.size]? = some (.cells #[.int .i64 L, x1] 34 (0, 0)) := heap_setCell_same w6 W.heap.size 0 _ _ _ h0
  have h2 : ((w6.setCell ⟨W.heap.size, 0, none⟩ (.int .i64 L)).setCell ⟨W.heap.size, 1, none⟩ (.slice A n c)).heap[W.heap.size]? = some (.cells #[.int .i64 L, .slice A n c] 34 (0, 0)) := heap_setCell_same _ W.heap.size 1 _ _ _ h1
  have hbW : Below W.heap.size W w6 := thn (below_alloc_drew W _) hb
  refine ⟨h2, ?_, ?_, Nat.le_refl _⟩
  · have hO := (only_set w6 W.heap.size 0 (.int .i64 L)).trans (only_set _ W.heap.size 1 (.slice A n c)) (fun _ _ h => h)
    exact hbW.trans (hO.below hbW.size fun j hj => by omega)
  · have hne : ∀ ad, A = some ad → ¬ ad.block = W.heap.size := fun ad ha h => by have := (ho.lt ad ha).1; omega
    exact ((only_set _ W.heap.size 1 (.slice A n c)).own hne ((only_set w6 W.heap.size 0 (.int .i64 L)).own hne ho)).mono (Nat.le_of_lt hlt)

set_option maxRecDepth 100000 in
set_option maxHeartbeats 8000000 in
theorem reads_any (A1 A2 : Option Addr) (n1 c1 n2 c2 : Nat) (vs : List Value) (ls : List (List UInt8)) (sd : List Int) (w : World)
    (hd : Datas w A1 n1 vs ls) (hs : Nums w .u32 0 4294967295 A2 n2 sd) (hn1 : n1 ≤ 9223372036854775807) (hn2 : n2 ≤ 9223372036854775807) (hb : ∀ d ∈ ls, d.length ≤ 1048576) :
    Calls Try.prog 4 #[.slice A1 n1 c1, .slice A2 n2 c2] w (EqRP w true) := by
  go_enter Try.func4, Try.ntmps4
  go_wp2_with fail
  refine (begun_any w).mono ?_
  rintro e W1 ⟨rfl, hb1⟩
  have hb3 := hb1.alloc hb1.size (Obj.cells #[.slice none 0 0, .int .i64 0] 30)
  have hp0 : (W1.alloc (Obj.cells #[.slice none 0 0, .int .i64 0] 30)).heap[W1.heap.size]? = some (.cells #[.slice none 0 0, .int .i64 0] 30 (0, 0)) := heap_alloc_new _ _
  have hpw : w.heap.size ≤ W1.heap.size := hb1.size
  have hK0 : KeptL w.heap.size (W1.alloc (Obj.cells #[.slice none 0 0, .int .i64 0] 30)) W1.heap.size none 0 0 0 [] :=
    ⟨hp0, World.ownsRow_nil _ _ _ _, rfl, fun e h => (by cases h), fun e h => (by cases h), List.Pairwise.nil, fun _ h => (by cases h), hpw⟩
  go_wp2_with fail
  generalize (W1.alloc (Obj.cells #[.slice none 0 0, .int .i64 0] 30)) = W2 at *
  clear hp0 hb1
  generalize W1.heap.size = p at *
  go_loopw [6, 7, 8, 9, 10, 11, 12, 13, 14, 15, 16, 17, 18, 19] (fun i _ _ _ _ _ _ _ _ _ _ _ _ _ wr => ∃ (k : Nat), k ≤ n1 ∧ k ≤ n2 ∧ i = .int .i64 k ∧ Below w.heap.size w wr ∧ KS w.heap.size wr p) (fun i _ _ _ _ _ _ _ _ _ _ _ _ _ _ => n1 - (intOf i).toNat)
  case atStart => exact ⟨0, by omega, by omega, rfl, hb3, none, 0, 0, 0, [], hK0, by simp, by simp, fun e h => by cases h⟩
  case round =>
    obtain ⟨k, hk1, hk2, rfl, hbr, L, m, mc, sz, es, hK, hS⟩ := hrel
    have Hend : Hid (Calls Try.prog 20 #[.pointer (some ⟨p, 0, none⟩)] wr fun e w' => e = .returned (.bool true) ∧ Below w.heap.size w w') := (apart_any _ p m mc L sz es wr hK hS).mono fun e w' h => ⟨h.1, hbr.trans h.2.bl⟩
    by_cases hgo : k < n1 ∧ k < n2 ∧ k < 40
    · obtain ⟨hl1, hl2, hl3⟩ := hgo
      obtain ⟨ad1, D, cd, rfl, c1, hcd, hcm, hD⟩ := (hd.keep hbr).at_ k (by have := hd.llen; omega)
      obtain ⟨g3, g4, ad2, rfl, c2⟩ := (hs.keep hbr).each k (by have := hs.zlen; omega)
      have hdb := hb (ls[k]'(by have := hd.llen; omega)) (List.getElem_mem _)
      generalize ls[k]'(by have := hd.llen; omega) = d at *
      generalize sd[k]'(by have := hs.zlen; omega) = z at *
      obtain ⟨seed, rfl⟩ := Int.eq_ofNat_of_zero_le g3
      have hsd : seed < 4294967296 := by omega
      have hk0 : (0 : Int) ≤ (k : Int) := by omega
      have hk1 : (k : Int) < (n1 : Int) := by omega
      have hk2' : (k : Int) < (n2 : Int) := by omega
      have hk3' : (k : Int) < 40 := by omega
      have hlen4 := fread_len seed d
      generalize hre : fread seed d = r at *
      obtain ⟨rL, rb, rN, rS, rc⟩ := r
      have HR := Lib.hid hre
      simp only at hlen4
      clear hre Hend
      go_wp2_with fail
      refine (lent_any d d.length cd rfl (by omega) D wr hD).mono ?_
      rintro e W3 ⟨A3, c3, rfl, ho3, hb3⟩
      have hap := lent_apart ho3 hD
      have hc3 := ho3.cap_le
      have c13 := keep_cell hb3 c1
      have c23 := keep_cell hb3 c2
      have hl3 := rd_pre ho3.rd
      go_wp2_with fail
      refine (fread_any seed hsd d d.length rfl (by omega) A3 c3 (by omega) W3 hl3).mono ?_
      rw [HR.out]
      rintro e W4 ⟨A4, n4, c4, rfl, ho4, hb4⟩
      have hba : ∀ (W : World) o, Below W.heap.size W (W.alloc o) := fun W o => (Below.refl _ _).alloc (Nat.le_refl _) _
      have hb5 := thn hb4 (hba W4 (Obj.cells #[.int .i64 rL, .slice A4 n4 c4] 34))
      have p5 : (W4.alloc (Obj.cells #[.int .i64 rL, .slice A4 n4 c4] 34)).heap[W4.heap.size]? = some (.cells #[.int .i64 rL, .slice A4 n4 c4] 34 (0, 0)) := heap_alloc_new _ _
      have c15 := keep_cell hb5 c13
      have c25 := keep_cell hb5 c23
      have ho45 := ho4.keep (hba W4 (Obj.cells #[.int .i64 rL, .slice A4 n4 c4] 34))
      have ho35 := ho3.keep hb5
      have l33 := ho3.lt
      have l44 := ho4.lt
      have hb35 := thn hb3 hb5
      have hs5 : W4.heap.size < (W4.alloc (Obj.cells #[.int .i64 rL, .slice A4 n4 c4] 34)).heap.size := by simp
      clear c13 c23 hl3 ho3 ho4 hba
      go_wp2_with fail
      generalize (W4.alloc (Obj.cells #[.int .i64 rL, .slice A4 n4 c4] 34)) = W5 at *
      have hD5 := hD.keep hb35
      have hna1 : (ad1.add k).block ≠ W5.heap.size := Nat.ne_of_lt (World.block_lt_of_cell? _ _ c15)
      have hna2 : (ad2.add k).block ≠ W5.heap.size := Nat.ne_of_lt (World.block_lt_of_cell? _ _ c25)
      go_region_held3 (fun w' => w'.cell? (ad1.add k) = some (.slice D d.length cd) ∧ w'.cell? (ad2.add k) = some (.int .u32 seed)) (first | exact ⟨c15, c25⟩ | exact ⟨keep_cell (below_alloc_drew W5 _) c15, keep_cell (below_alloc_drew W5 _) c25⟩ | exact ⟨keep_cell hb6 c15, keep_cell hb6 c25⟩ | exact ⟨keep_cell hb6 (keep_cell (below_alloc_drew W5 _) c15), keep_cell hb6 (keep_cell (below_alloc_drew W5 _) c25)⟩ | exact ⟨keep_cell ((Below.refl _ _).alloc (Nat.le_refl _) _) (keep_cell hb6 c15), keep_cell ((Below.refl _ _).alloc (Nat.le_refl _) _) (keep_cell hb6 c25)⟩ | exact ⟨keep_set2 hna1 (keep_cell hb6 (keep_cell (below_alloc_drew W5 _) c15)), keep_set2 hna2 (keep_cell hb6 (keep_cell (below_alloc_drew W5 _) c25))⟩)
        (first
          | (go_at_call 22; refine (rread_any seed hsd d d.length rfl (by omega) D cd hcd W5.drew hD5).mono ?_; rw [HR.out]; rintro e w6 ⟨A6, n6, c6, rfl, ho6, hb6⟩)
          | (go_at_call 22; refine (rread_any seed hsd d d.length rfl (by omega) D cd hcd _ (hD5.keep (below_alloc_drew W5 _))).mono ?_; rw [HR.out]; rintro e w6 ⟨A6, n6, c6, rfl, ho6, hb6⟩
             have hz6 : w6.heap[W5.heap.size]? = some (.cells #[.int .i64 0, .slice none 0 0] 34 (0, 0)) := (hb6.block _ (by show W5.heap.size < (W5.alloc _).heap.size; simp)).trans (heap_alloc_new W5 _)
             have z0 := cell_of_row _ _ 0 _ _ _ hz6
             have z1 := cell_of_row _ _ 1 _ _ _ hz6
             have y0 := frozen_of_row _ _ 0 _ _ hz6
             have y1 := frozen_of_row _ _ 1 _ _ hz6))
      focus
        obtain ⟨p8, hb58, ho8, hg58⟩ := got_a (rL : Int) hb6 ho6
        obtain ⟨g8, hg8⟩ : ∃ x, x = w6.heap.size := ⟨_, rfl⟩
        rw [← hg8] at p8 hg58 ⊢
        generalize (w6.alloc (.cells #[.int .i64 rL, .slice A6 n6 c6] 34)) = w8 at p8 hb58 ho8 ⊢
        clear hg8 hb6 ho6
      rotate_left
      focus
        obtain ⟨p8, hb58, ho8, hg58⟩ := got_b (rL : Int) rfl hb6 ho6
        obtain ⟨g8, hg8⟩ : ∃ x, x = W5.heap.size := ⟨_, rfl⟩
        rw [show ((w6.setCell ⟨W5.heap.size, 0, none⟩ (.int .i64 rL)).setCell ⟨W5.heap.size, 1, none⟩ (.slice A6 n6 c6)) = _ from rfl]
        generalize ((w6.setCell ⟨W5.heap.size, 0, none⟩ (.int .i64 rL)).setCell ⟨W5.heap.size, 1, none⟩ (.slice A6 n6 c6)) = w8 at p8 hb58 ho8 ⊢
        rw [← hg8] at p8 ⊢
        have hg58 : W5.heap.size ≤ g8 := Nat.le_of_eq hg8.symm
        clear hg8 hz6 z0 z1 y0 y1 hb6 ho6
      all_goals
        have hn4 := ho45.len
        have hn6 := ho8.len
        obtain rfl : n6 = n4 := by omega
        have hs48 := hb58.size
        have q8 := (hb58.block _ (Array.getElem?_eq_some_iff.1 p5).1).trans p5
        have hb38 := thn hb35 hb58
        have ho38 := ho35.keep hb58
        have ho48 := ho45.keep hb58
        have hD8 := hD.keep hb38
        have l4 := ho45.lt
        have l8 := ho8.lt
        have gp8 := (Array.getElem?_eq_some_iff.1 p8).1
        have hs35 : wr.heap.size ≤ W3.heap.size := hb3.size
        have hs34 : W3.heap.size ≤ W4.heap.size := hb4.size
        have a0 := cell_of_row _ _ 0 _ _ _ q8
        have a1 := cell_of_row _ _ 1 _ _ _ q8
        have e0 := cell_of_row _ _ 0 _ _ _ p8
        have e1 := cell_of_row _ _ 1 _ _ _ p8
        clear ho35 ho45 hD5 c15 c25 p5
        go_wp2_with fail
        refine (eqr_any rL rL rb rb n6 n6 hn4 hn4 (by omega) A4 A6 c4 c6 w8 ho48.rd ho8.rd).mono ?_
        rw [recB_self]
        rintro e w9 ⟨rfl, hb9⟩
        have hs89 := hb9.size
        have hb39 := thn hb38 hb9
        have ho39 := ho38.keep hb9
        have ho49 := ho48.keep hb9
        have ho69 := ho8.keep hb9
        have p9 := (hb9.block _ (Array.getElem?_eq_some_iff.1 p8).1).trans p8
        have q9 := (hb9.block _ (Array.getElem?_eq_some_iff.1 q8).1).trans q8
        have hD9 := hD.keep hb39
        have c19 := keep_cell hb39 c1
        clear a0 a1 e0 e1 ho38 ho48 ho8 hD8 p8 q8
        go_wp2_with fail
        refine (back_ok d d.length c3 cd rfl (by omega) A3 D wr.heap.size w9 ho39 hD9 hap).mono ?_
        rintro e w10 ⟨rfl, hg10⟩
        have hne : ∀ ad : Addr, W3.heap.size ≤ ad.block → some ad.block ≠ A3.map (fun x : Addr => x.block) := fun ad hge he => by
          cases A3 with
          | none => cases he
          | some a3 => simp only [Option.map_some, Option.some.injEq] at he; have := (l33 a3 rfl).2; omega
        have ho410 := ho49.grown hg10 (fun ad ha => hne ad (by have := (l44 ad ha).1; omega))
        have ho610 := ho69.grown hg10 (fun ad ha => hne ad (by have := (l8 ad ha).1; omega))
        have q10 := (hg10.block _ (Array.getElem?_eq_some_iff.1 q9).1 (hne ⟨W4.heap.size, 0, none⟩ (by simp only; omega))).trans q9
        have p10 := (hg10.block _ (Array.getElem?_eq_some_iff.1 p9).1 (hne ⟨g8, 0, none⟩ (by simp only; omega))).trans p9
        have hb310 := hb39.trans (below_grown hg10 hb39.size fun ad h => (l33 ad h).1)
        have hs910 : w9.heap.size ≤ w10.heap.size := hg10.size
        have a0 := cell_of_row _ _ 0 _ _ _ q10
        have a1 := cell_of_row _ _ 1 _ _ _ q10
        have e0 := cell_of_row _ _ 0 _ _ _ p10
        have e1 := cell_of_row _ _ 1 _ _ _ p10
        clear c19 ho39 ho49 ho69 hD9 p9 q9 hg10 hne
        go_wp2_with fail
        refine (eqr_any rL rL rb rb n6 n6 hn4 hn4 (by omega) A4 A6 c4 c6 w10 ho410.rd ho610.rd).mono ?_
        rw [recB_self]
        rintro e w11 ⟨rfl, hb11⟩
        have hs1011 := hb11.size
        have hb311 := thn hb310 hb11
        have ho411 := ho410.keep hb11
        have q11 := (hb11.block _ (Array.getElem?_eq_some_iff.1 q10).1).trans q10
        have hD11 := hD.keep hb311
        have c111 := keep_cell hb311 c1
        have c211 := keep_cell hb311 c2
        clear a0 a1 e0 e1 ho410 ho610 p10 q10
        go_wp2_with fail
        have hnb1 : (ad1.add k).block ≠ w11.heap.size := Nat.ne_of_lt (World.block_lt_of_cell? _ _ c111)
        have hnb2 : (ad2.add k).block ≠ w11.heap.size := Nat.ne_of_lt (World.block_lt_of_cell? _ _ c211)
        go_region_held3 (fun w' => w'.cell? (ad1.add k) = some (.slice D d.length cd) ∧ w'.cell? (ad2.add k) = some (.int .u32 seed)) (first | exact ⟨c111, c211⟩ | exact ⟨keep_cell (below_alloc_drew w11 _) c111, keep_cell (below_alloc_drew w11 _) c211⟩ | exact ⟨keep_cell hb12 c111, keep_cell hb12 c211⟩ | exact ⟨keep_cell hb12 (keep_cell (below_alloc_drew w11 _) c111), keep_cell hb12 (keep_cell (below_alloc_drew w11 _) c211)⟩ | exact ⟨keep_cell ((Below.refl _ _).alloc (Nat.le_refl _) _) (keep_cell hb12 c111), keep_cell ((Below.refl _ _).alloc (Nat.le_refl _) _) (keep_cell hb12 c211)⟩ | exact ⟨keep_set2 hnb1 (keep_cell hb12 (keep_cell (below_alloc_drew w11 _) c111)), keep_set2 hnb2 (keep_cell hb12 (keep_cell (below_alloc_drew w11 _) c211))⟩)
          (first
            | (go_at_call 21; refine (fread_any seed hsd d d.length rfl (by omega) D cd hcd w11.drew hD11).mono ?_; rw [HR.out]; rintro e w12 ⟨A7, n7, c7, rfl, ho7, hb12⟩)
            | (go_at_call 21; refine (fread_any seed hsd d d.length rfl (by omega) D cd hcd _ (hD11.keep (below_alloc_drew w11 _))).mono ?_; rw [HR.out]; rintro e w12 ⟨A7, n7, c7, rfl, ho7, hb12⟩
               have hz6 : w12.heap[w11.heap.size]? = some (.cells #[.int .i64 0, .slice none 0 0] 34 (0, 0)) := (hb12.block _ (by show w11.heap.size < (w11.alloc _).heap.size; simp)).trans (heap_alloc_new w11 _)
               have z0 := cell_of_row _ _ 0 _ _ _ hz6
               have z1 := cell_of_row _ _ 1 _ _ _ hz6
               have y0 := frozen_of_row _ _ 0 _ _ hz6
               have y1 := frozen_of_row _ _ 1 _ _ hz6))
        focus
          obtain ⟨p13, hb1113, ho13, hg1113⟩ := got_a (rL : Int) hb12 ho7
          obtain ⟨g13, hg8⟩ : ∃ x, x = w12.heap.size := ⟨_, rfl⟩
          rw [← hg8] at p13 hg1113 ⊢
          generalize (w12.alloc (.cells #[.int .i64 rL, .slice A7 n7 c7] 34)) = w13 at p13 hb1113 ho13 ⊢
          clear hg8 hb12 ho7
        rotate_left
        focus
          obtain ⟨p13, hb1113, ho13, hg1113⟩ := got_b (rL : Int) rfl hb12 ho7
          obtain ⟨g13, hg8⟩ : ∃ x, x = w11.heap.size := ⟨_, rfl⟩
          generalize ((w12.setCell ⟨w11.heap.size, 0, none⟩ (.int .i64 rL)).setCell ⟨w11.heap.size, 1, none⟩ (.slice A7 n7 c7)) = w13 at p13 hb1113 ho13 ⊢
          rw [← hg8] at p13 ⊢
          have hg1113 : w11.heap.size ≤ g13 := Nat.le_of_eq hg8.symm
          clear hg8 hz6 z0 z1 y0 y1 hb12 ho7
        all_goals
          have hn7 := ho13.len
          obtain rfl : n7 = n6 := by omega
          have hs1113 := hb1113.size
          have q13 := (hb1113.block _ (Array.getElem?_eq_some_iff.1 q11).1).trans q11
          have hb313 := thn hb311 hb1113
          have ho413 := ho411.keep hb1113
          have l7 := ho13.lt
          have l411 := ho411.lt
          have a1 := cell_of_row _ _ 1 _ _ _ q13
          have e1 := cell_of_row _ _ 1 _ _ _ p13
          have hba : Below w13.heap.size w13 (w13.alloc (Obj.cells #[.slice A4 n7 c4, .slice A7 n7 c7] 31)) := (Below.refl _ _).alloc (Nat.le_refl _) _
          have hpa : (w13.alloc (Obj.cells #[.slice A4 n7 c4, .slice A7 n7 c7] 31)).heap[w13.heap.size]? = some (Obj.cells #[.slice A4 n7 c4, .slice A7 n7 c7] 31 (0, 0)) := heap_alloc_new _ _
          have hb314 := thn hb313 hba
          have ho414 := ho413.keep hba
          have ho714 := ho13.keep hba
          clear ho411 ho413 ho13 q11 hD11
          go_wp2_with fail
          generalize (w13.alloc (Obj.cells #[.slice A4 n7 c4, .slice A7 n7 c7] 31)) = w14 at *
          have hpl := hK.lt
          have hLl := hK.Llt
          have hwb : w.heap.size ≤ wr.heap.size := hbr.size
          have hs14 : w13.heap.size ≤ w14.heap.size := hba.size
          have hPLlt : ∀ j, PL p L j → j < wr.heap.size := fun j hj => by
            rcases hj with rfl | ⟨bd, hb, rfl⟩
            · exact hpl
            · exact (hLl bd hb).2
          have hPLge : ∀ j, PL p L j → w.heap.size ≤ j := fun j hj => by
            rcases hj with rfl | ⟨bd, hb, rfl⟩
            · exact hK.low
            · exact (hLl bd hb).1
          have hK14 := hK.keep hb314
          have hx4 : Own w.heap.size w14 A4 n7 c4 rb := ho414.mono (by omega)
          have hx7 : Own w.heap.size w14 A7 n7 c7 rb := ho714.mono (by omega)
          have hlt4 : ∀ ad, A4 = some ad → wr.heap.size ≤ ad.block := fun ad h => by have := (l44 ad h).1; omega
          have hlt7 : ∀ ad, A7 = some ad → wr.heap.size ≤ ad.block := fun ad h => by have := (l7 ad h).1; omega
          have hes : ∀ e ∈ es, ∀ ad, e.A = some ad → ad.block < wr.heap.size := fun e he ad ha => ((hK.each e he).lt ad ha).2
          refine (keep_any w.heap.size p m mc L sz es [⟨A4, n7, c4, rb⟩, ⟨A7, n7, c7, rb⟩] _ 2 2 w14 hK14 hS (by omega) rfl (by omega) (rd_vals2 hpa) (fun ad h hj => by cases h; have := hPLlt _ hj; simp only at this; omega) ?_ ?_ ?_ ?_ ?_).mono ?_
          · intro x hx
            rcases List.mem_cons.1 hx with rfl | hx
            · exact hx4
            · rw [List.mem_singleton.1 hx]; exact hx7
          · intro x hx
            rcases List.mem_cons.1 hx with rfl | hx
            · simp only; omega
            · rw [List.mem_singleton.1 hx]; simp only; omega
          · intro x hx
            rcases List.mem_cons.1 hx with rfl | hx
            · intro ad h hj; have := hPLlt _ hj; have := hlt4 ad h; omega
            · rw [List.mem_singleton.1 hx]; intro ad h hj; have := hPLlt _ hj; have := hlt7 ad h; omega
          · refine List.pairwise_cons.2 ⟨fun x hx => ?_, List.pairwise_singleton _ _⟩
            rw [List.mem_singleton.1 hx]
            intro ad bd h1 h2 he
            have h57 := (l411 ad h1).2
            have h77 := (l7 bd h2).1
            omega
          · intro e he x hx ad bd h1 h2 heb
            have := hes e he ad h1
            rcases List.mem_cons.1 hx with rfl | hx
            · have := hlt4 bd h2; omega
            · rw [List.mem_singleton.1 hx] at h2; have := hlt7 bd h2; omega
          · rintro e w15 ⟨rfl, L', m', mc', sz', es', hK', hS', _, hO', _⟩
            have hb15 := (hbr.trans (hb314.mono hwb)).trans (hO'.below (by omega) hPLge)
            go_wp2_with fail
            exact ⟨⟨k + 1, by omega, by omega, by go_num, hb15, L', m', mc', sz', es', hK', hS'⟩, by simp [intOf]; omega⟩
    · rcases (show ¬ k < n1 ∨ (k < n1 ∧ ¬ k < n2) ∨ (k < n1 ∧ k < n2 ∧ ¬ k < 40) by omega) with h1 | ⟨h1, h2⟩ | ⟨h1, h2, h3⟩
      all_goals
        go_wp2_with fail
        refine Hend.out.mono ?_
        rintro e w9 ⟨rfl, hb9⟩
        go_wp2_with fail
        go_ret
        exact ⟨rfl, hb9⟩
end Go.Proofs.Ytdfabjkffjacoaa
