/- Walks: the reference's ReadHead. -/
import Derived.Test.YtdfabjkffjacoaaPlain
import Derived.Test.YtdfabjkffjacoaaEq
import Derived.Test.YtdfabjkffjacoaaLent
import Derived.Test.YtdfabjkffjacoaaRef
import Derived.Deep.RegionHeld3
import Derived.Deep.QuietTactic
import Derived.BigQuiet
namespace Go.Proofs.Ytdfabjkffjacoaa
open Go.RowKit

theorem rrhead_ret {R : Ending → World → Prop} {a : Act} {w : World} {g : Nat} {c0 c1 c2 : Value} {t : TypeId} {fr : Nat × Nat} (hd : a.defers = []) (hp : a.tmps.getD 2 undef = .pointer (some ⟨g, 0, none⟩))
    (hg : w.heap[g]? = some (.cells #[c0, c1, c2] t fr)) (hR : R (.returned (.tuple #[.agg #[c0, c1, c2], a.tmps.getD 3 undef, a.tmps.getD 4 undef])) w) : bodyPost Try.prog Try.f27 R .ret a w :=
  bodyPost_ret (results_cell_t2 (x := 3) (y := 4) rfl _ _ _ _ _ _ _ hp hg Try.underlying50 rfl (by kernel_rfl)) hd hR
theorem rrhead_fail {w W W' : World} {k : Nat} {a : Act} (hb : Below w.heap.size w W) (h0 : W.heap[w.heap.size]? = some zhead)
    (hW : W' = W.setRow w.heap.size #[.int .i64 0, .int .i64 0, .int .u32 0]) (hd : a.defers = []) (hp : a.tmps.getD 2 undef = .pointer (some ⟨w.heap.size, 0, none⟩))
    (h3 : a.tmps.getD 3 undef = .int .u32 0) (h4 : a.tmps.getD 4 undef = .int .i64 (k : Int)) :
    bodyPost Try.prog Try.f27 (RHeadP w ((0, 0, 0), 0, k)) .ret a W' := by
  subst hW
  refine rrhead_ret hd hp (setRow_heap W _ _ _ _ _ h0) ?_
  rw [h3, h4]
  exact rhead_none w _ k (hb.trans ⟨rfl, rfl, rfl, by simp, fun j hj => setRow_other _ _ j _ (by omega)⟩)

theorem wrap_numB (N : Nat) (h : N < 18446744073709551616) : (numB N 9223372036854775807 = true ∧ IntKind.i64.wrap (N : Int) = N ∧ 1 ≤ (N : Int)) ∨ (numB N 9223372036854775807 = false ∧ IntKind.i64.wrap (N : Int) < 1) := by
  rw [IntKind.wrap_i64]
  by_cases h1 : 1 ≤ N ∧ N ≤ 9223372036854775807
  · exact .inl ⟨by simp [numB, h1], by omega, by omega⟩
  · refine .inr ⟨by simp only [numB, h1, decide_false], ?_⟩
    omega
theorem quiet_num {l : List UInt8} {A : Option Addr} {n c : Nat} {w : World} {x k : Nat} (hl : l.length = n) (hn : n ≤ 8) (hr : Rd w A (bv l)) (hx : num l = x) :
    Calls Try.prog 46 #[.slice A n c] (w.drewN k) fun e w'' => e = .returned (.int .u64 (x : Int)) ∧ ∃ m, w'' = w.drewN m := by
  subst hx
  exact Calls.quiet_of_same ((rnum_any l n hl hn A c _ (hr.keep (drewN_below _ _ _))).mono fun _ _ h => ⟨h.1, h.2.symm⟩)
theorem quiet_mask {C : Nat} {w : World} {k : Nat} (hC : C < 4294967296) :
    Calls Try.prog 41 #[.int .u32 C] (w.drewN k) fun e w'' => e = .returned (.int .u32 (mask C : Nat)) ∧ ∃ m, w'' = w.drewN m :=
  Calls.quiet_of_same ((rmask_any C hC _).mono fun _ _ h => ⟨h.1, h.2.symm⟩)

set_option maxRecDepth 100000 in
set_option maxHeartbeats 4000000 in
theorem rrhead_any (l : List UInt8) (n : Nat) (hl : l.length = n) (hn : n ≤ 9223372036854775807) (A : Option Addr) (cp : Nat) (hc : n ≤ cp) (w : World) (hr : Rd w A (bv l)) :
    Calls Try.prog 27 #[.slice A n cp] w (RHeadP w (rhead l)) := by
  have hb0 : Below w.heap.size w (w.alloc (Obj.cells #[.int .i64 0, .int .i64 0, .int .u32 0] 50)) := (Below.refl _ _).alloc (Nat.le_refl _) _
  have p0 : (w.alloc (Obj.cells #[.int .i64 0, .int .i64 0, .int .u32 0] 50)).heap[w.heap.size]? = some zhead := heap_alloc_new w _
  by_cases h32 : n < 32
  · have e : Hid (rhead l = ((0, 0, 0), 0, 2)) := by rw [Hid, rhead, if_pos (by omega)]
    have hd : decide ((n : Int) < 32) = true := by simp; omega
    go_enter Try.func27, Try.ntmps27
    go_wp2
    rw [e.out]
    exact rrhead_ret rfl rfl p0 (rhead_none w _ 2 hb0)
  · obtain ⟨ad, rfl, _⟩ := hr.byte (k := 0) (by omega)
    have hd : decide ((n : Int) < 32) = false := by simp; omega
    have hr0 := hr.keep hb0
    go_enter Try.func27, Try.ntmps27
    go_wp2
    generalize (w.alloc (Obj.cells #[.int .i64 0, .int .i64 0, .int .u32 0] 50)) = W at *
    have c1 : (8 : Int) ≤ (cp : Int) := by omega
    have c2 : (16 : Int) ≤ (cp : Int) := by omega
    have c3 : (24 : Int) ≤ (cp : Int) := by omega
    have c4 : (28 : Int) ≤ (cp : Int) := by omega
    have c5 : (32 : Int) ≤ (cp : Int) := by omega
    have d1 : ¬ cp = 8 := by omega
    have d2 : ¬ cp = 16 := by omega
    have d3 : ¬ cp = 24 := by omega
    have d4 : ¬ cp = 28 := by omega
    obtain ⟨r1', l1⟩ := num_cut (A2 := some (ad.add 8)) (k := 8) (h := 16) hr0 (by rw [if_neg d1]; rfl) hl hc (by omega)
    obtain ⟨r2', l2⟩ := num_cut (A2 := some (ad.add 16)) (k := 16) (h := 24) hr0 (by rw [if_neg d2]; rfl) hl hc (by omega)
    obtain ⟨r3', l3⟩ := num_cut (A2 := some (ad.add 24)) (k := 24) (h := 28) hr0 (by rw [if_neg d3]; rfl) hl hc (by omega)
    have r1 : Rd W (some ⟨ad.block, ad.off + 8, none⟩) (bv ((l.drop 8).take 8)) := r1'
    have r2 : Rd W (some ⟨ad.block, ad.off + 16, none⟩) (bv ((l.drop 16).take 8)) := r2'
    have r3 : Rd W (some ⟨ad.block, ad.off + 24, none⟩) (bv ((l.drop 24).take 4)) := r3'
    have m1 : ((l.drop 8).take 8).length = 8 := l1
    have m2 : ((l.drop 16).take 8).length = 8 := l2
    have m3 : ((l.drop 24).take 4).length = 4 := l3
    clear r1' r2' r3' l1 l2 l3
    have b1 := num8_lt _ (Nat.le_of_eq m1)
    have b2 := num8_lt _ (Nat.le_of_eq m2)
    have b3 := num_lt ((l.drop 24).take 4)
    rw [m3] at b3
    have q1 := fun (w' : World) (h : Below W.heap.size W w') => rnum_any _ 8 m1 (by omega) _ (cp - 8) w' (r1.keep h)
    have q2 := fun (w' : World) (h : Below W.heap.size W w') => rnum_any _ 8 m2 (by omega) _ (cp - 16) w' (r2.keep h)
    have q3 := fun (w' : World) (h : Below W.heap.size W w') => rnum_any _ 4 m3 (by omega) _ (cp - 24) w' (r3.keep h)
    clear r1 r2 r3 m1 m2 m3
    generalize hx1 : num ((l.drop 8).take 8) = N at *
    generalize hx2 : num ((l.drop 16).take 8) = B at *
    generalize hx3 : num ((l.drop 24).take 4) = S at *
    have Hx1 := Lib.hid hx1
    have Hx2 := Lib.hid hx2
    have Hx3 := Lib.hid hx3
    clear hx1 hx2 hx3
    have Q1 := Lib.hid q1
    have Q2 := Lib.hid q2
    have Q3 := Lib.hid q3
    clear q1 q2 q3
    apply via
    · intro key
      go_region_held3 (fun w' => Below W.heap.size W w') (first | exact ⟨rfl, rfl, rfl, Nat.le_refl _, fun _ _ => rfl⟩ | assumption | exact ⟨rfl, rfl, rfl, by simp, fun j hj => Below.heap_alloc W _ j hj⟩ | go_keep)
        (first
          | (go_at_call 46; with_reducible refine Calls.mono (Q1.out _ (by assumption)) ?_; rintro e w5 ⟨rfl, rfl⟩)
          | (go_at_call 46; with_reducible refine Calls.mono (Q2.out _ (by assumption)) ?_; rintro e w5 ⟨rfl, rfl⟩)
          | (go_at_call 46; with_reducible refine Calls.mono (Q3.out _ (by assumption)) ?_; rintro e w5 ⟨rfl, rfl⟩))
      all_goals exact key.out
    have hbA : Below W.heap.size W (W.alloc (Obj.cells #[.int .i64 (IntKind.i64.wrap (N : Int)), .int .i64 (IntKind.i64.wrap (B : Int)), .int .u32 (IntKind.u32.wrap (S : Int))] 50)).drew := ⟨rfl, rfl, rfl, by simp, fun j hj => Below.heap_alloc W _ j hj⟩
    have pA : (W.alloc (Obj.cells #[.int .i64 (IntKind.i64.wrap (N : Int)), .int .i64 (IntKind.i64.wrap (B : Int)), .int .u32 (IntKind.u32.wrap (S : Int))] 50)).drew.heap[W.heap.size]? = some (Obj.cells #[.int .i64 (IntKind.i64.wrap (N : Int)), .int .i64 (IntKind.i64.wrap (B : Int)), .int .u32 (IntKind.u32.wrap (S : Int))] 50 (0, 0)) := heap_alloc_new W _
    have hSw : IntKind.u32.wrap (S : Int) = S := by rw [IntKind.wrap_u32]; omega
    rw [hSw] at hbA pA ⊢
    clear hSw Q1 Q2 Q3
    generalize (W.alloc (Obj.cells #[.int .i64 (IntKind.i64.wrap (N : Int)), .int .i64 (IntKind.i64.wrap (B : Int)), .int .u32 S] 50)).drew = W1 at *
    have p1 := (hbA.block _ (Array.getElem?_eq_some_iff.1 p0).1).trans p0
    have hb1 := thn hb0 hbA
    have hr1 := hr.keep hb1
    have ht8 : Rd W1 (some ad) (bv (l.take 8)) := by rw [show bv (l.take 8) = (bv l).take 8 from by simp [bv, List.map_take]]; exact hr1.take
    have hstr := run_str W1 (some ad) (l.take 8) 8 cp ht8 (List.length_take_of_le (by omega)) (by omega)
    have hmg : magic = [70, 76, 85, 77, 69, 76, 79, 71] := rfl
    have Hmg := Lib.hid hmg
    have s0 := cell_of_row _ _ 0 _ _ _ pA
    have s1 := cell_of_row _ _ 1 _ _ _ pA
    have hWz : w.heap.size < W.heap.size := (Array.getElem?_eq_some_iff.1 p0).1
    clear hmg ht8 p0 hr0 hb0
    have hz1 := wrap_numB N b1
    have hz2 := wrap_numB B b2
    generalize IntKind.i64.wrap (N : Int) = z1 at *
    generalize IntKind.i64.wrap (B : Int) = z2 at *
    by_cases hm : l.take 8 = [70, 76, 85, 77, 69, 76, 79, 71]
    · rw [hm] at hstr
      have Hm := Lib.hid hm
      clear hm
      rcases hz1 with ⟨HbN, rfl, hN1⟩ | ⟨HbN, hlt⟩
      · rcases hz2 with ⟨HbB, rfl, hB1⟩ | ⟨HbB, hlt⟩
        ·
          have hN2 : decide ((N : Int) < 1) = false := by simp; omega
          have hB2 : decide ((B : Int) < 1) = false := by simp; omega
          have ht28 : Rd W1 (some ad) (bv (l.take 28)) := by rw [show bv (l.take 28) = (bv l).take 28 from by simp [bv, List.map_take]]; exact hr1.take
          have Hk : Hid (¬ (l.take 8 ≠ magic ∨ numB (num ((l.drop 8).take 8)) 9223372036854775807 = false ∨ numB (num ((l.drop 16).take 8)) 9223372036854775807 = false)) := by
            rw [Hid, Hx1.out, Hx2.out, Hmg.out, Hm.out, HbN, HbB]; simp
          clear HbN HbB hN1 hB1 hr1
          go_wp2_with (first
            | (refine wpList_slice_h rfl (.tmp 24) (.const (.int .i64 8)) rfl 8 rfl rfl (by omega) ?_)
            | (refine wpList_slice_h rfl (.tmp 39) (.const (.int .i64 28)) rfl 28 rfl rfl (by omega) ?_))
          refine (rsum_n (l.take 28) 28 (List.length_take_of_le (by omega)) (some ad) _ W1 ht28 (by omega)).mono ?_
          rintro e W2 ⟨rfl, rfl⟩
          have hC := csum_lt (l.take 28)
          have hMk := mask_lt (csum (l.take 28))
          obtain ⟨r4', l4⟩ := num_cut (A2 := some (ad.add 28)) (k := 28) (h := 32) (hr.keep hb1) (by rw [if_neg d4]; rfl) hl hc (by omega)
          have r4 : Rd W1 (some ⟨ad.block, ad.off + 28, none⟩) (bv ((l.drop 28).take 4)) := r4'
          have m4 : ((l.drop 28).take 4).length = 4 := l4
          clear r4' l4
          generalize hCe : csum (l.take 28) = C at *
          generalize hKe : num ((l.drop 28).take 4) = K at *
          have HCe := Lib.hid hCe
          have HKe := Lib.hid hKe
          clear hCe
          have hmw : IntKind.u64.wrap (mask C : Int) = (mask C : Int) := by rw [IntKind.wrap_u64]; omega
          by_cases hk : mask C = K
          · have hbm : ((mask C : Int) != (K : Int)) = false := by rw [hk]; simp
            have e : Hid (rhead l = ((N, B, S), C, 0)) := by
              rw [Hid, rhead, if_neg (by omega), if_neg Hk.out, Hx1.out, Hx2.out, Hx3.out, HCe.out, HKe.out, if_neg (by simp [hk])]
            clear hk
            go_wp2_with fail
            go_quiet (first
              | (go_at_call 41; exact quiet_mask hC)
              | (go_at_call 46; exact quiet_num m4 (by omega) r4 hKe))
            have pA' := ((drewN_below _ W1 nq).block _ (Array.getElem?_eq_some_iff.1 pA).1).trans pA
            have p1' := ((drewN_below _ W1 nq).block _ (Array.getElem?_eq_some_iff.1 p1).1).trans p1
            have hb2 := hb1.trans (drewN_below _ W1 nq)
            clear s0 s1 hKe pA p1
            generalize W1.drewN nq = W2 at *
            go_wp2_with (first
              | (refine wpList_load_row rfl _ (.tmp 5) rfl _ rfl _ _ _ _ pA' Try.underlying50 rfl (by kernel_rfl) ?_)
              | (refine wpList_store_row rfl _ (.tmp 2) (.tmp 50) rfl _ #[.int .i64 N, .int .i64 B, .int .u32 S] rfl rfl _ _ p1' (by kernel_rfl) rfl (by kernel_rfl) ?_))
            rw [e.out]
            refine rrhead_ret rfl rfl (setRow_heap W2 _ _ _ _ _ p1') ⟨rfl, ?_⟩
            exact hb2.trans ⟨rfl, rfl, rfl, by simp, fun j hj => setRow_other _ _ j _ (by omega)⟩
          · have hbm : ((mask C : Int) != (K : Int)) = true := by simp; omega
            have e : Hid (rhead l = ((0, 0, 0), 0, 5)) := by
              rw [Hid, rhead, if_neg (by omega), if_neg Hk.out, HCe.out, HKe.out, if_pos (fun h => hk h.symm)]
            clear hk
            go_wp2_with fail
            go_quiet (first
              | (go_at_call 41; exact quiet_mask hC)
              | (go_at_call 46; exact quiet_num m4 (by omega) r4 hKe))
            have p1' := ((drewN_below _ W1 nq).block _ (Array.getElem?_eq_some_iff.1 p1).1).trans p1
            have hb2 := hb1.trans (drewN_below _ W1 nq)
            clear s0 s1 hKe pA p1
            generalize W1.drewN nq = W2 at *
            go_wp2_with (refine wpList_store_row rfl _ (.tmp 2) (.tmp 49) rfl _ #[.int .i64 0, .int .i64 0, .int .u32 0] rfl rfl _ _ p1' (by kernel_rfl) rfl (by kernel_rfl) ?_)
            rw [e.out]
            refine rrhead_fail (k := 5) hb2 p1' ?_ ?_ ?_ ?_ ?_ <;> rfl
        · have e : Hid (rhead l = ((0, 0, 0), 0, 4)) := by rw [Hid, rhead, if_neg (by omega), Hx1.out, Hx2.out, if_pos (.inr (.inr HbB))]
          go_wp2_with (first
            | (refine wpList_slice_h rfl (.tmp 24) (.const (.int .i64 8)) rfl 8 rfl rfl (by omega) ?_)
            | (refine wpList_store_row rfl _ (.tmp 2) (.tmp 38) rfl _ #[.int .i64 0, .int .i64 0, .int .u32 0] rfl rfl _ _ p1 (by kernel_rfl) rfl (by kernel_rfl) ?_))
          rw [e.out]
          refine rrhead_fail (k := 4) hb1 p1 ?_ ?_ ?_ ?_ ?_ <;> rfl
      · have e : Hid (rhead l = ((0, 0, 0), 0, 4)) := by rw [Hid, rhead, if_neg (by omega), Hx1.out, Hx2.out, if_pos (.inr (.inl HbN))]
        go_wp2_with (first
          | (refine wpList_slice_h rfl (.tmp 24) (.const (.int .i64 8)) rfl 8 rfl rfl (by omega) ?_)
          | (refine wpList_store_row rfl _ (.tmp 2) (.tmp 38) rfl _ #[.int .i64 0, .int .i64 0, .int .u32 0] rfl rfl _ _ p1 (by kernel_rfl) rfl (by kernel_rfl) ?_))
        rw [e.out]
        refine rrhead_fail (k := 4) hb1 p1 ?_ ?_ ?_ ?_ ?_ <;> rfl
    · generalize ht : l.take 8 = t at *
      have Ht := Lib.hid ht
      clear ht
      have e : Hid (rhead l = ((0, 0, 0), 0, 4)) := by rw [Hid, rhead, if_neg (by omega), if_pos (.inl (by rw [Ht.out, Hmg.out]; exact hm))]
      go_wp2_with (first
        | (refine wpList_slice_h rfl (.tmp 24) (.const (.int .i64 8)) rfl 8 rfl rfl (by omega) ?_)
        | (refine wpList_store_row rfl _ (.tmp 2) (.tmp 38) rfl _ #[.int .i64 0, .int .i64 0, .int .u32 0] rfl rfl _ _ p1 (by kernel_rfl) rfl (by kernel_rfl) ?_))
      rw [e.out]
      refine rrhead_fail (k := 4) hb1 p1 ?_ ?_ ?_ ?_ ?_ <;> rfl
end Go.Proofs.Ytdfabjkffjacoaa
