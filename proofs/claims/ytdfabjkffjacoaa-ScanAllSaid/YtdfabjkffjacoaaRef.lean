/- Walks: the reference's reading of frames. -/
import Derived.Test.YtdfabjkffjacoaaRead
namespace Go.Proofs.Ytdfabjkffjacoaa
open Go.RowKit

theorem num_drop (l : List UInt8) (k : Nat) (hk : k < l.length) : num (l.drop k) = l[k].toNat + 256 * num (l.drop (k + 1)) := by
  rw [List.drop_eq_getElem_cons hk]; rfl
theorem num8_lt (l : List UInt8) (h : l.length ≤ 8) : num l < 18446744073709551616 := by
  have h1 := num_lt l
  have h2 : 256 ^ l.length ≤ 256 ^ 8 := Nat.pow_le_pow_right (by omega) h
  have h3 : (256 : Nat) ^ 8 = 18446744073709551616 := by decide
  omega

set_option maxHeartbeats 400000 in
theorem rnum_any (l : List UInt8) (n : Nat) (hl : l.length = n) (hn : n ≤ 8) (A : Option Addr) (cp : Nat) (w : World) (hr : Rd w A (bv l)) :
    Calls Try.prog 46 #[.slice A n cp] w fun e w' => e = .returned (.int .u64 (num l : Nat)) ∧ w = w' := by
  go_enter Try.func46, Try.ntmps46
  go_wp2
  go_loop [3, 4] (fun x i => ∃ k : Nat, k ≤ n ∧ i = .int .i64 ((k : Int) - 1) ∧ x = .int .u64 (num (l.drop k) : Nat)) (fun _ i => ((intOf i) + 1).toNat)
  case atStart => exact ⟨n, Nat.le_refl _, by simp, by rw [List.drop_eq_nil_of_le (by omega)]; rfl⟩
  case round =>
    obtain ⟨k, hk, rfl, rfl⟩ := hrel
    have hb := num8_lt (l.drop k) (by rw [List.length_drop]; omega)
    by_cases hlt : 0 < k
    · obtain ⟨j, rfl⟩ : ∃ j, k = j + 1 := ⟨k - 1, by omega⟩
      obtain ⟨ad, rfl, hc⟩ := hr.byte (k := j) (by omega)
      have hj : (((j + 1 : Nat) : Int) - 1) = (j : Int) := by omega
      have hnd := num_drop l j (by omega)
      have hb2 := num8_lt (l.drop j) (by rw [List.length_drop]; omega)
      rw [hj]
      rw [hnd] at hb2
      have Hnd := Lib.hid hnd
      clear hnd hj
      generalize num (l.drop (j + 1)) = x at *
      go_wp2
      exact ⟨⟨j, by omega, rfl, val_int (by rw [Hnd.out, Int.natCast_add, Int.natCast_mul]; omega)⟩, by simp [intOf]⟩
    · obtain rfl : k = 0 := by omega
      go_wp2
      go_ret
      exact ⟨rfl, rfl⟩
theorem num_cut {w : World} {A A2 : Option Addr} {l : List UInt8} {n c k h : Nat} (hr : Rd w A (bv l)) (hA : A2 = if c = k then A else A.map (·.add k)) (hl : l.length = n) (hc : n ≤ c) (hh : h ≤ n) :
    Rd w A2 (bv ((l.drop k).take (h - k))) ∧ ((l.drop k).take (h - k)).length = h - k :=
  ⟨rd_take hr hA hl hc, by rw [List.length_take_of_le]; rw [List.length_drop]; omega⟩

theorem rread_ret {R : Ending → World → Prop} {a : Act} {w : World} {g : Nat} {c0 c1 : Value} {t : TypeId} {fr : Nat × Nat} (hd : a.defers = []) (hp : a.tmps.getD 4 undef = .pointer (some ⟨g, 0, none⟩))
    (hg : w.heap[g]? = some (.cells #[c0, c1] t fr)) (hR : R (.returned (.tuple #[.agg #[c0, c1], a.tmps.getD 5 undef, a.tmps.getD 6 undef, a.tmps.getD 7 undef])) w) : bodyPost Try.prog Try.f22 R .ret a w :=
  bodyPost_ret (results_cell_t3 (x := 5) (y := 6) (z := 7) rfl _ _ _ _ _ _ _ hp hg Try.underlying34 rfl (by kernel_rfl)) hd hR
theorem rread_fail {w W W' : World} {k : Nat} {a : Act} (hb : Below w.heap.size w W) (h0 : W.heap[w.heap.size]? = some zrec)
    (hW : W' = W.setRow w.heap.size #[.int .i64 0, .slice none 0 0]) (hd : a.defers = []) (hp : a.tmps.getD 4 undef = .pointer (some ⟨w.heap.size, 0, none⟩))
    (h5 : a.tmps.getD 5 undef = .int .i64 0) (h6 : a.tmps.getD 6 undef = .int .u32 0) (h7 : a.tmps.getD 7 undef = .int .i64 (k : Int)) :
    bodyPost Try.prog Try.f22 (FReadP w (0, [], 0, 0, k)) .ret a W' := by
  subst hW
  refine rread_ret hd hp (setRow_heap W _ _ _ _ _ h0) ?_
  rw [h5, h6, h7]
  exact fread_none w _ k (hb.trans ⟨rfl, rfl, rfl, by simp, fun j hj => setRow_other _ _ j _ (by omega)⟩)

set_option maxRecDepth 100000 in
set_option maxHeartbeats 1000000 in
theorem rread_any (seed : Nat) (hsd : seed < 4294967296) (l : List UInt8) (n : Nat) (hl : l.length = n) (hn : n ≤ 9223372036854775807) (A : Option Addr) (cp : Nat) (hc : n ≤ cp) (w : World) (hr : Rd w A (bv l)) :
    Calls Try.prog 22 #[.int .u32 seed, .slice A n cp] w (FReadP w (fread seed l)) := by
  have hb0 : Below w.heap.size w (w.alloc (Obj.cells #[.int .i64 0, .slice none 0 0] 34)) := (Below.refl _ _).alloc (Nat.le_refl _) _
  have p0 : (w.alloc (Obj.cells #[.int .i64 0, .slice none 0 0] 34)).heap[w.heap.size]? = some zrec := heap_alloc_new w _
  by_cases h16 : n < 16
  · have e : Hid (fread seed l = (0, [], 0, 0, 2)) := by rw [Hid, fread, if_pos (by omega)]
    have hd : decide ((n : Int) < 16) = true := by simp; omega
    go_enter Try.func22, Try.ntmps22
    go_wp2
    rw [e.out]
    exact rread_ret rfl rfl p0 (fread_none w _ 2 hb0)
  · have hd : decide ((n : Int) < 16) = false := by simp; omega
    have hr0 := hr.keep hb0
    have ht4 : Rd (w.alloc (Obj.cells #[.int .i64 0, .slice none 0 0] 34)) A (bv (l.take 4)) := by rw [show bv (l.take 4) = (bv l).take 4 from by simp [bv, List.map_take]]; exact hr0.take
    go_enter Try.func22, Try.ntmps22
    go_wp2_with fail
    generalize (w.alloc (Obj.cells #[.int .i64 0, .slice none 0 0] 34)) = W at *
    refine (rnum_any (l.take 4) 4 (List.length_take_of_le (by omega)) (by omega) A _ W ht4).mono ?_
    rintro e W1 ⟨rfl, rfl⟩
    have hN := num_lt (l.take 4)
    rw [List.length_take_of_le (by omega)] at hN
    generalize hNe : num (l.take 4) = N at *
    have HNe := Lib.hid hNe
    clear hNe ht4
    go_wp2_with (refine wpList_slice_lh rfl (.tmp 20) (.const (.int .i64 4)) (.const (.int .i64 12)) rfl 4 12 rfl rfl rfl (by omega) (by omega) ?_; intro A2 hA2)
    obtain ⟨hrd2, hlen2⟩ := num_cut (h := 12) hr0 hA2.out hl hc (by omega)
    refine (rnum_any _ 8 hlen2 (by omega) A2 _ W hrd2).mono ?_
    rintro e W1 ⟨rfl, rfl⟩
    have hL := num8_lt _ (Nat.le_of_eq hlen2)
    rw [show 12 - 4 = 8 from rfl] at hL ⊢
    generalize hLe : num ((l.drop 4).take 8) = L at *
    have HLe := Lib.hid hLe
    clear hLe hrd2 hlen2 hA2
    go_wp2_with (refine wpList_slice_lh rfl (.tmp 23) (.const (.int .i64 12)) (.const (.int .i64 16)) rfl 12 16 rfl rfl rfl (by omega) (by omega) ?_; intro A2 hA2)
    obtain ⟨hrd2, hlen2⟩ := num_cut (h := 16) hr0 hA2.out hl hc (by omega)
    refine (rnum_any _ 4 hlen2 (by omega) A2 _ W hrd2).mono ?_
    rintro e W1 ⟨rfl, rfl⟩
    have hK := num8_lt _ (Nat.le_trans (Nat.le_of_eq hlen2) (by omega))
    rw [show 16 - 12 = 4 from rfl] at hK ⊢
    generalize hKe : num ((l.drop 12).take 4) = K at *
    have HKe := Lib.hid hKe
    clear hKe hrd2 hlen2 hA2
    by_cases h4096 : 4096 < N
    · have e : Hid (fread seed l = (0, [], 0, 0, 3)) := by rw [Hid, fread, if_neg (by omega), HNe.out, if_pos h4096]
      go_wp2_with (refine wpList_store_row rfl _ (.tmp 4) (.tmp 28) rfl _ #[.int .i64 0, .slice none 0 0] rfl rfl _ _ p0 (by kernel_rfl) rfl (by kernel_rfl) ?_)
      rw [e.out]
      refine rread_fail (k := 3) hb0 p0 ?_ ?_ ?_ ?_ ?_ ?_ <;> rfl
    · by_cases hB1 : L < 1
      · have e : Hid (fread seed l = (0, [], 0, 0, 4)) := by rw [Hid, fread, if_neg (by omega), HNe.out, if_neg h4096, HLe.out, if_pos (by simp [numB]; omega)]
        go_wp2_with (refine wpList_store_row rfl _ (.tmp 4) (.tmp 35) rfl _ #[.int .i64 0, .slice none 0 0] rfl rfl _ _ p0 (by kernel_rfl) rfl (by kernel_rfl) ?_)
        rw [e.out]
        refine rread_fail (k := 4) hb0 p0 ?_ ?_ ?_ ?_ ?_ ?_ <;> rfl
      · by_cases hB2 : 9223372036854775806 < L
        · have e : Hid (fread seed l = (0, [], 0, 0, 4)) := by rw [Hid, fread, if_neg (by omega), HNe.out, if_neg h4096, HLe.out, if_pos (by simp [numB]; omega)]
          go_wp2_with (refine wpList_store_row rfl _ (.tmp 4) (.tmp 35) rfl _ #[.int .i64 0, .slice none 0 0] rfl rfl _ _ p0 (by kernel_rfl) rfl (by kernel_rfl) ?_)
          rw [e.out]
          refine rread_fail (k := 4) hb0 p0 ?_ ?_ ?_ ?_ ?_ ?_ <;> rfl
        · have HB : Hid (numB L 9223372036854775806 = true) := by simp [Hid, numB]; omega
          by_cases hsz : n < 16 + N
          · have e : Hid (fread seed l = (0, [], 0, 0, 2)) := by rw [Hid, fread, if_neg (by omega), HNe.out, if_neg h4096, HLe.out, if_neg (by rw [HB.out]; decide), if_pos (by omega)]
            have hd2 : decide ((n : Int) - 16 < (N : Int)) = true := by simp; omega
            go_wp2_with (refine wpList_store_row rfl _ (.tmp 4) (.tmp 42) rfl _ #[.int .i64 0, .slice none 0 0] rfl rfl _ _ p0 (by kernel_rfl) rfl (by kernel_rfl) ?_)
            rw [e.out]
            refine rread_fail (k := 2) hb0 p0 ?_ ?_ ?_ ?_ ?_ ?_ <;> rfl
          · have hd2 : decide ((n : Int) - 16 < (N : Int)) = false := by simp; omega
            have hcs : 16 + N ≤ cp := by omega
            have e16 : Hid (((16 : Int) + (N : Int)) = ((16 + N : Nat) : Int)) := by show _ = _; omega
            go_wp2_with (first
              | (refine wpList_slice_lh rfl (.tmp 43) (.const (.int .i64 16)) (.tmp 46) rfl 16 (16 + N) rfl rfl (val_int e16.out) (by omega) hcs ?_; intro A2 hA2; have hrd := rd_take (n := 16 + N) hr0 hA2.out hl hc)
              | (at_builtin; refine wpList_append_s rfl (.const (.slice none 0 0)) (.tmp 47) rfl rfl rfl (Own.nil W.heap.size W) hrd (by simp; omega) (by omega) (Nat.le_refl _) ?_; intro A4 c4 W4 ho4 hb4))
            rw [Nat.add_sub_cancel_left, Nat.zero_add, List.nil_append] at ho4
            generalize hDe : (l.drop 16).take N = D at *
            have HDe := Lib.hid hDe
            clear hDe hrd hA2 e16 hr0
            have q0 := (hb4.block _ (Array.getElem?_eq_some_iff.1 p0).1).trans p0
            have hb04 := thn hb0 hb4
            have hwW := (Array.getElem?_eq_some_iff.1 p0).1
            refine (rsums_n seed hsd L (by omega) D N ho4.len (by omega) A4 c4 W4 ho4.rd).mono ?_
            rintro e W5 ⟨rfl, hb5⟩
            have hS := fsum_lt seed L D
            generalize hSe : fsum seed L D = S at *
            have HSe := Lib.hid hSe
            have ho5 := ho4.keep hb5
            have q5 := (hb5.block _ (Array.getElem?_eq_some_iff.1 q0).1).trans q0
            have hb05 := thn hb04 hb5
            clear hSe q0 hb04 hb4 hb5 ho4
            go_wp2_with fail
            refine (rmask_any S hS _).mono ?_
            rintro e W7 ⟨rfl, rfl⟩
            have hmS := mask_lt S
            by_cases hm : mask S = K
            · have hbm : ((mask S : Int) != (K : Int)) = false := by rw [hm]; simp
              have e : Hid (fread seed l = (L, D, 16 + N, S, 0)) := by
                rw [Hid, fread, if_neg (by omega), HNe.out, if_neg h4096, HLe.out, if_neg (by rw [HB.out]; decide), if_neg (by omega), HDe.out, HSe.out, HKe.out, if_neg (by simp [hm])]
              clear hm
              go_wp2_with (refine wpList_store_row rfl _ (.tmp 4) (.tmp 62) rfl _ #[.int .i64 L, .slice A4 N c4] rfl rfl _ _ q5 (by kernel_rfl) rfl (by kernel_rfl) ?_)
              rw [e.out]
              refine rread_ret rfl rfl (setRow_heap W5 _ _ _ _ _ q5) ⟨A4, N, c4, ?_, ?_, ?_⟩
              · rw [show (((L, D, 16 + N, S, 0) : Nat × List UInt8 × Nat × Nat × Nat).2.2.1 : Int) = 16 + (N : Int) from by simp]
                rfl
              · have hgs : W5.grownBy (W5.setRow w.heap.size #[.int .i64 L, .slice A4 N c4]) (some w.heap.size) := ⟨rfl, rfl, rfl, by simp, fun j _ hne => setRow_other _ _ j _ (fun e => hne (by rw [e]))⟩
                exact (ho5.grown hgs fun ad hA e => by have := (ho5.lt ad hA).1; injection e; omega).mono (Nat.le_of_lt hwW)
              · exact hb05.trans ⟨rfl, rfl, rfl, by simp, fun j hj => setRow_other _ _ j _ (by omega)⟩
            · have hbm : ((mask S : Int) != (K : Int)) = true := by simp; omega
              have e : Hid (fread seed l = (0, [], 0, 0, 5)) := by
                rw [Hid, fread, if_neg (by omega), HNe.out, if_neg h4096, HLe.out, if_neg (by rw [HB.out]; decide), if_neg (by omega), HDe.out, HSe.out, HKe.out, if_pos (fun h => hm h.symm)]
              clear hm
              go_wp2_with (refine wpList_store_row rfl _ (.tmp 4) (.tmp 58) rfl _ #[.int .i64 0, .slice none 0 0] rfl rfl _ _ q5 (by kernel_rfl) rfl (by kernel_rfl) ?_)
              rw [e.out]
              refine rread_fail (k := 5) hb05 q5 ?_ ?_ ?_ ?_ ?_ ?_ <;> rfl
end Go.Proofs.Ytdfabjkffjacoaa
