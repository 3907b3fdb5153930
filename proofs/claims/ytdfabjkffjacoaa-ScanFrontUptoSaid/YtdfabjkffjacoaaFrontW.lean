/- Walk: flumelaw7.ScanFront. -/
import Derived.Test.YtdfabjkffjacoaaFrontP
import Derived.Test.YtdfabjkffjacoaaAgainW
namespace Go.Proofs.Ytdfabjkffjacoaa
open Go.RowKit Go.Shelf

theorem Try.infoI : (Try.prog.info? 3).map (fun i => (i.zero, i.size, i.bytes)) = some (some (.int .i64 0), 1, 8) := by kernel_rfl
def endsL (seed base : Nat) (ls : List (List UInt8)) (k : Nat) : List Value := (List.range (k + 1)).map fun j => Value.int .i64 (endAt seed base ls j : Nat)
theorem endsL_succ (seed base : Nat) (ls : List (List UInt8)) (k : Nat) : endsL seed base ls (k + 1) = endsL seed base ls k ++ [.int .i64 (endAt seed base ls (k + 1) : Nat)] := by
  unfold endsL
  rw [List.range_succ, List.map_append]
  rfl
theorem endsL_get (seed base : Nat) (ls : List (List UInt8)) (k j : Nat) (h : j ≤ k) : (endsL seed base ls k)[j]? = some (.int .i64 (endAt seed base ls j : Nat)) := by
  unfold endsL
  rw [List.getElem?_map, List.getElem?_range (by omega)]
  rfl
theorem Only.rowv {R : Nat → Prop} {w w1 : World} {B n size : Nat} {t : TypeId} {v : Value} {l : List Value} (h : Only R w w1) (hv : ∀ j, v.ownBlock = some j → ¬ R j) (ho : w.ownsRow B t size v n l) : w1.ownsRow B t size v n l := by
  refine ⟨ho.1, ?_⟩
  rcases ho.2 with hn | ⟨g, cap, cur, he, hbg, hg, r⟩
  · exact .inl hn
  · exact .inr ⟨g, cap, cur, he, hbg, h.row (hv g (by rw [he]; rfl)) hg, r⟩

set_option maxRecDepth 100000 in
set_option maxHeartbeats 8000000 in
theorem front_main (A : Option Addr) (n c : Nat) (vs : List Value) (ls : List (List UInt8)) (base seed : Nat) (bh : List UInt8) (A4 : Option Addr) (n4 c4 : Nat) (cut : Int) (w : World) (hd : Datas w A n vs ls)
    (h1 : 1 ≤ base) (h2 : base ≤ 4611686018427387904) (h3 : n ≤ 100) (h4 : n4 ≤ 32768) (hs : seed < 4294967296) (hb4 : bh.length = n4) (hc4 : n4 ≤ c4) (hr4 : Rd w A4 (bv bh)) (g1 : -9223372036854775808 ≤ cut) (g2 : cut ≤ 9223372036854775807) :
    Calls Try.prog 10 #[.slice A n c, .int .i64 base, .int .u32 seed, .slice A4 n4 c4, .int .i64 cut] w (EqRP w true) := by
  have b1 : decide ((base : Int) < 1) = false := by simp; omega
  have b2 : decide (4611686018427387904 < (base : Int)) = false := by simp; omega
  have b3 : decide (100 < (n : Int)) = false := by simp; omega
  have b4 : decide (32768 < (n4 : Int)) = false := by simp; omega
  go_enter Try.func10, Try.ntmps10
  go_wp2_with fail
  refine (sbegun_any w).mono ?_
  rintro e W1 ⟨rfl, hb1⟩
  have hrow0 : (W1.alloc (Obj.cells #[.int .i64 0] 3)).ownsRow W1.heap.size 3 1 (.slice (some ⟨W1.heap.size, 0, none⟩) 1 1) 1 (endsL seed base ls 0) :=
    ⟨by simp [endsL], .inr ⟨W1.heap.size, 1, _, rfl, Nat.le_refl _, heap_alloc_new _ _, Nat.le_refl _, by simp [maxLen], by simp, by simp [endsL, endAt, chainB]⟩⟩
  have hz0 : W1.heap.size ≤ (W1.alloc (Obj.cells #[.int .i64 0] 3)).heap.size := by simp
  have hb2 := hb1.alloc hb1.size (Obj.cells #[.int .i64 0] 3)
  have HB4 := Lib.hid hb4
  clear hb4
  go_wp2_with fail
  generalize (W1.alloc (Obj.cells #[.int .i64 0] 3)) = W2 at *
  go_loopw [11, 12, 13, 14, 15, 16, 17] (fun b es s i _ _ _ wr => ∃ (k m cc : Nat) (B : Option Addr), k ≤ n ∧ i = .int .i64 k ∧ b = .slice B m cc ∧ s = .int .u32 (chainS seed base (ls.take k) : Nat) ∧
      Own W1.heap.size wr B m cc (chainB seed base (ls.take k)) ∧ wr.ownsRow W1.heap.size 3 1 es (k + 1) (endsL seed base ls k) ∧ W1.heap.size ≤ wr.heap.size ∧ (∀ d ∈ ls.take k, d.length ≤ 4096) ∧ Below w.heap.size w wr) (fun _ _ _ i _ _ _ _ => n - (intOf i).toNat)
  case atStart => exact ⟨0, 0, 0, none, by omega, rfl, rfl, rfl, Own.nil _ _, hrow0, hz0, by simp, hb2⟩
  case round =>
    obtain ⟨k, m, cc, B, hk, rfl, rfl, rfl, ho, hrow, hz, hall, hbW⟩ := hrel
    have hSk := chainS_lt seed base (ls.take k) hs
    have hml : m ≤ 4112 * 100 := by
      have h1 := ho.len
      have h2 := chainB_len seed base (ls.take k) hall
      have h3 := List.length_take_le k ls
      omega
    generalize hSe : chainS seed base (ls.take k) = S at *
    have HSe := Lib.hid hSe
    clear hSe
    have Hall := Lib.hid hall
    clear hall
    by_cases hlt : k < n
    · obtain ⟨ad, D, cd, rfl, hcell, hD1, hD2, hD3⟩ := (hd.keep hbW).at_ k (by have := hd.llen; omega)
      have hdl : (ls[k]'(by have := hd.llen; omega)).length ≤ 9223372036854775807 := by omega
      generalize hde : ls[k]'(by have := hd.llen; omega) = d at *
      have Hde := Lib.hid hde
      clear hde
      have hbk : IntKind.i64.wrap ((base : Int) + (k : Int)) = (base : Int) + (k : Int) := by rw [IntKind.wrap_i64]; omega
      have hix0 : (0 : Int) ≤ (k : Int) := by omega
      have hix1 : (k : Int) < (n : Int) := by omega
      go_wp2_with fail
      refine (write_any S hSk ((base : Int) + (k : Int)) (by omega) (by omega) d (by omega) D cd wr hD3).mono ?_
      rintro e w5 ⟨A5, n5, c5, rfl, ho5, hb5⟩
      have hbW5 := hbW.trans (hb5.mono hbW.size)
      have hcell5 : w5.cell? (ad.add k) = some (.slice D d.length cd) := keep_cell hb5 hcell
      have hz5 : W1.heap.size ≤ w5.heap.size := Nat.le_trans hz hb5.size
      have hrow5 := Only.rowv (R := fun _ => False) (Only.of_below hb5) (fun _ _ h => h) hrow
      by_cases h4 : d.length ≤ 4096
      · have hfw : fwrite S ((base : Int) + (k : Int)) d = (frameB S (base + k) d, fsum S (base + k) d, 0) := by
          rw [fwrite, if_neg (by omega), if_neg (by omega)]; simp [show ((base : Int) + (k : Int)).toNat = base + k by omega]
        rw [hfw] at ho5 ⊢
        have hoA := ho.keep hb5
        have hn5 : n5 = 16 + d.length := by have := ho5.len; rw [frameB_length] at this; omega
        subst hn5
        obtain ⟨iI, hiI, hzI, hsI, hbI⟩ := info_parts Try.infoI
        have hnr := own_ne_row hrow5 hoA (by decide)
        have hls : k < ls.length := by have := hd.llen; omega
        have htk : ls.take (k + 1) = ls.take k ++ [d] := by rw [List.take_succ_eq_append_getElem hls, Hde.out]
        have hkl : (ls.take k).length = k := List.length_take_of_le (by omega)
        have hE : m + (16 + d.length) = endAt seed base ls (k + 1) := by
          unfold endAt
          rw [htk, chainB_snoc, List.length_append, frameB_length, ho.len]
        have HHI := Lib.hid hiI
        have HHZ := Lib.hid hzI
        have HHS := Lib.hid hsI
        have HHB := Lib.hid hbI
        have HTK := Lib.hid htk
        have HKL := Lib.hid hkl
        have HE := Lib.hid hE
        have hMle : m + (16 + d.length) ≤ 1000000 := by omega
        clear hfw hcell hD3 hiI hzI hsI hbI htk hkl hE hrow
        go_wp2_with (first
          | (at_builtin; refine wpList_append_b rfl (.tmp 69) (.tmp 70) rfl rfl rfl hoA ho5.rd ho5.len (by omega) hz5 ?_; intro A6 c6 w6 ho6 hg6 _
             obtain ⟨M, hM⟩ : ∃ M, M = m + (16 + d.length) := ⟨_, rfl⟩
             rw [← hM] at ho6 ⊢
             have HM := Lib.hid hM
             have hMl : M ≤ 1000000 := by omega
             have hrow6 := Only.rowv (R := fun j => some j = B.map (·.block)) (Only.of_grown hg6 fun j h => h.symm) (fun j hj hr => by
               cases B with
               | none => cases hr
               | some bd => exact hnr bd rfl (by rw [hj]; exact hr.symm)) hrow5
             have hz6 : W1.heap.size ≤ w6.heap.size := Nat.le_trans hz5 hg6.size
             have hb56 := below_grown hg6 hz5 (fun ad h => (hoA.lt ad h).1)
             clear hM)
          | (at_builtin; refine wpList_append_own_at _ rfl (.tmp 72) (.tmp 75) 24 rfl W1.heap.size 3 iI _ 1 8 Try.underlying24 HHI.out HHZ.out HHS.out HHB.out rfl (by decide) _ (k + 1) _ rfl (Only.rows' (Only.of_below ((Below.refl _ _).alloc (Nat.le_refl _) _)) hrow6) ⟨w6.heap.size, 0, none⟩ 1 1 [.int .i64 (M : Int)] rfl rfl (World.news_of_block (heap_alloc_new w6 _)) (by intro u hu; simp at hu; rcases hu with rfl; rfl) (by simp only [maxLen]; omega) (by omega) (by simp; omega) ?_; intro v9 w9 hrow9 hg9 _ _))
        have hoF := (ho6.keep ((Below.refl _ _).alloc (Nat.le_refl _) _)).grown hg9 (own_ne_row hrow6 ho6 (by decide))
        have hb69 : Below W1.heap.size w6 w9 := (((Below.refl _ _).alloc hz6 _).trans ((Below.refl _ _).grown hg9 (by simp; omega) (fun j hj => own_low hrow6 hj)))
        have hbF := (hbW5.trans (hb56.mono hb1.size)).trans (hb69.mono hb1.size)
        refine ⟨⟨k + 1, M, c6, A6, by omega, by go_num, rfl, ?_, ?_, ?_, Nat.le_trans hz6 hb69.size, ?_, hbF⟩, by simp [intOf]; omega⟩
        · rw [HTK.out, chainS_snoc, HSe.out, HKL.out]
        · rw [HTK.out, chainB_snoc, HSe.out, HKL.out]; exact hoF
        · rw [endsL_succ, ← HE.out, ← HM.out]; exact hrow9
        · rw [HTK.out]; intro x hx; rcases List.mem_append.1 hx with hx | hx
          · exact Hall.out x hx
          · obtain rfl := List.mem_singleton.1 hx; exact h4
      · have hfw : fwrite S ((base : Int) + (k : Int)) d = ([], 0, 3) := by
          rw [fwrite, if_neg (by omega), if_pos (by omega)]
        rw [hfw] at ho5 ⊢
        have g4 : decide ((4096 : Int) < (d.length : Int)) = true := by simp; omega
        clear hfw hcell hD3
        go_wp2_with fail
        go_ret
        exact ⟨rfl, hbW5⟩
    · obtain rfl : k = n := by omega
      have hlk : ls.take k = ls := List.take_of_length_le (by have := hd.llen; omega)
      have hln : ls.length = k := hd.llen
      rw [hlk] at ho HSe Hall
      have hlm := ho.len
      have HF := Lib.hid hlm
      have HLN := Lib.hid hln
      have hcm := ho.cap_le
      clear hlm hln hlk
      have hall' : ∀ d ∈ ls, d.length ≤ 4096 := Hall.out
      have hkb : base + ls.length ≤ 9223372036854775807 := by have := HLN.out; omega
      obtain ⟨recs, cn, fi, sdo, y, hO1, hO2, hO3, hO4, hO5⟩ := front_o seed base ls bh h1 hkb hall'
      have hP1 := front_p seed base ls h1 hkb hall'
      rw [HLN.out, HF.out, HSe.out] at hP1
      rw [HLN.out] at hO2
      rw [HF.out] at hO3
      have hlen2 : (chainB seed base ls ++ bh).length = m + n4 := by rw [List.length_append, HF.out, HB4.out]
      rw [hlen2] at hO4 hO5
      generalize hnx : base + cn = nx at hO1
      generalize hnp : base + k = np at hP1
      have HNX := Lib.hid hnx
      have hne8 : ((nx : Int) != (base : Int) + (cn : Int)) = false := by simp; omega
      have HO1 := Lib.hid hO1
      have HP1 := Lib.hid hP1
      have HL2 := Lib.hid hlen2
      have hr4r := hr4.keep hbW
      have hd1 : decide ((cn : Int) < (k : Int)) = false := by simp; omega
      have hd2 : decide ((fi : Int) < (m : Int)) = false := by simp; omega
      obtain ⟨ge, cpe, rfl⟩ := ownsRow_succ hrow
      clear hnx hnp hO1 hP1 hlen2 hall' b1 b2 b3 b4 hrow0 hb2
      go_wp2_with (first
        | (at_builtin; refine wpList_append_s rfl (.const (.slice none 0 0)) (.tmp 78) rfl rfl rfl (Own.nil wr.heap.size wr) ho.rd HF.out (by omega) (Nat.le_refl _) ?_; intro A5 c5 w5 ho5 hb5
           simp only [Nat.zero_add, List.nil_append] at ho5 ⊢
           have hr45 := hr4r.keep hb5)
        | (at_builtin; refine wpList_append_s rfl (.tmp 79) (.tmp 80) rfl rfl rfl ho5 hr45 HB4.out (by omega) hb5.size ?_; intro A6 c6 w6 ho6 hb6
           have hb06 := hb5.trans hb6))
      refine (over_all (chainB seed base ls ++ bh) A6 (m + n4) c6 base seed w6 HL2.out (by omega) ho6.cap_le ho6.rd hs (by omega)).mono ?_
      rw [HO1.out]
      rintro e w7 ⟨rfl, hb7⟩
      have hb07 := hb06.trans (hb7.mono hb06.size)
      have hb8 : Below w7.heap.size w7 (w7.alloc (Obj.cells (scv ⟨cn, fi, nx, sdo⟩ y) 57)) := (Below.refl _ _).alloc (Nat.le_refl _) _
      have q8 : (w7.alloc (Obj.cells (scv ⟨cn, fi, nx, sdo⟩ y) 57)).heap[w7.heap.size]? = some (.cells (scv ⟨cn, fi, nx, sdo⟩ y) 57 (0, 0)) := heap_alloc_new _ _
      have hb08 := hb07.trans (hb8.mono hb07.size)
      have ho8 := ho.keep hb08
      have hrow8 := Only.rowv (R := fun _ => False) (Only.of_below hb08) (fun _ _ h => h) hrow
      have hbW8 := hbW.trans (hb08.mono hbW.size)
      simp only [scv] at hb8 q8 hb08 ho8 hrow8 hbW8 ⊢
      have x0 := cell_of_row _ _ 0 _ _ _ q8
      have x1 := cell_of_row _ _ 1 _ _ _ q8
      have x2 := cell_of_row _ _ 2 _ _ _ q8
      clear hb5 hb6 hb06 hb7 hb07 hb8 hb08 ho5 ho6 hr45 q8 hr4r ho hrow hbW
      go_wp2_with fail
      generalize (w7.alloc _) = w8 at *
      refine (over_all (chainB seed base ls) B m cc base seed w8 HF.out (by omega) hcm ho8.rd hs (by omega)).mono ?_
      rw [HP1.out]
      rintro e w9 ⟨rfl, hb9⟩
      have hb10 : Below w9.heap.size w9 (w9.alloc (Obj.cells (scv ⟨k, m, np, S⟩ 1) 57)) := (Below.refl _ _).alloc (Nat.le_refl _) _
      have q10 : (w9.alloc (Obj.cells (scv ⟨k, m, np, S⟩ 1) 57)).heap[w9.heap.size]? = some (.cells (scv ⟨k, m, np, S⟩ 1) 57 (0, 0)) := heap_alloc_new _ _
      have hb810 := thn hb9 hb10
      have ho10 := ho8.keep hb810
      have hrow10 := Only.rowv (R := fun _ => False) (Only.of_below hb810) (fun _ _ h => h) hrow8
      have hbW10 := hbW8.trans (hb810.mono hbW8.size)
      simp only [scv] at hb10 q10 hb810 ho10 hrow10 hbW10 ⊢
      clear x0 x1 x2 hne8 hd1 hd2
      have x0 := cell_of_row _ _ 0 _ _ _ q10
      have x1 := cell_of_row _ _ 1 _ _ _ q10
      have x3 := cell_of_row _ _ 3 _ _ _ q10
      have x4 := cell_of_row _ _ 4 _ _ _ q10
      simp at x0 x1 x3 x4
      clear hb9 hb10 hb810 ho8 hrow8 hbW8 q10
      by_cases hct : cut < 0
      · have hc1 : decide (cut < 0) = true := by simp; omega
        go_wp2_with fail
        go_ret
        exact ⟨rfl, hbW10⟩
      · have hc1 : decide (cut < 0) = false := by simp; omega
        obtain ⟨ct, rfl⟩ := Int.eq_ofNat_of_zero_le (a := cut) (by omega)
        by_cases hcm2 : m < ct
        · have hc2 : decide ((m : Int) < (ct : Int)) = true := by simp; omega
          go_wp2_with fail
          go_ret
          exact ⟨rfl, hbW10⟩
        · have hc2 : decide ((m : Int) < (ct : Int)) = false := by simp; omega
          have hEk : endAt seed base ls k ≤ m := by have := endAt_le seed base ls k; rw [HF.out] at this; exact this
          clear x0 x1 x3 x4 hc1
          have hE0 : endAt seed base ls 0 = 0 := by simp [endAt, chainB]
          have HE0 := Lib.hid hE0
          clear hE0
          rw [show ((1 : Nat) : Int) = 1 from rfl] at ho10 hrow10 hbW10
          go_wp2_with fail
          generalize (w9.alloc _) = w10 at *
          have hcell : ∀ j, j ≤ k → w10.cell? ⟨ge, j, none⟩ = some (.int .i64 (endAt seed base ls j : Nat)) := fun j hj => by
            have := World.ownsRow.cells (g := ge) hrow10 rfl j _ (endsL_get seed base ls k j hj)
            rwa [addr0] at this
          have HC := Lib.hid hcell
          clear hcell
          go_loop [20] (fun i => ∃ j : Nat, j ≤ k ∧ endAt seed base ls j ≤ ct ∧ i = .int .i64 j) (fun i => k - (intOf i).toNat)
          case atStart => exact ⟨0, by omega, by have := HE0.out; omega, rfl⟩
          case round =>
            obtain ⟨j, hj, hje, rfl⟩ := hrel
            by_cases hjk : j < k
            · have e1 := HC.out (j + 1) (by omega)
              generalize hE1 : endAt seed base ls (j + 1) = E1 at *
              have HE1 := Lib.hid hE1
              clear hE1
              have hlt1 : decide ((j : Int) + 1 < (k : Int) + 1) = true := by simp; omega
              have hj1 : (j : Int) < (k : Int) := by omega
              by_cases hjc : E1 ≤ ct
              · have hjb : decide ((E1 : Int) ≤ (ct : Int)) = true := by simp; omega
                go_wp2_with fail
                exact ⟨⟨j + 1, by omega, by have := HE1.out; omega, by go_num⟩, by simp [intOf]; omega⟩
              · have hjb : decide ((E1 : Int) ≤ (ct : Int)) = false := by simp; omega
                obtain ⟨recsq, nxq, sdq, yq, hQ1, hQ2, hQ3⟩ := front_q seed base ls ct j h1 (by have := HLN.out; omega) Hall.out (by have := HLN.out; omega) hje (fun _ => by have := HE1.out; omega) (by rw [HF.out]; omega)
                have e0 := HC.out j hj
                generalize hEj : endAt seed base ls j = Ej at *
                have HQ1 := Lib.hid hQ1
                have HEJ := Lib.hid hEj
                have HQ3 := Lib.hid hQ3
                have htl : ((chainB seed base ls).take ct).length = ct := by rw [List.length_take, HF.out]; omega
                have hrt : Rd w10 B (bv ((chainB seed base ls).take ct)) := by rw [show bv ((chainB seed base ls).take ct) = (bv (chainB seed base ls)).take ct from by simp [bv, List.map_take]]; exact ho10.rd.take
                clear hQ1 hEj hQ3
                go_wp2_with fail
                refine (over_all ((chainB seed base ls).take ct) B ct cc base seed w10 htl (by omega) (by omega) hrt hs (by omega)).mono ?_
                rw [HQ1.out]
                rintro e w11 ⟨rfl, hb11⟩
                have hb12 : Below w11.heap.size w11 (w11.alloc (Obj.cells (scv ⟨j, Ej, nxq, sdq⟩ yq) 57)) := (Below.refl _ _).alloc (Nat.le_refl _) _
                have q12 : (w11.alloc (Obj.cells (scv ⟨j, Ej, nxq, sdq⟩ yq) 57)).heap[w11.heap.size]? = some (.cells (scv ⟨j, Ej, nxq, sdq⟩ yq) 57 (0, 0)) := heap_alloc_new _ _
                have hb1012 := thn hb11 hb12
                have e12 := keep_cell hb1012 e0
                have hbW12 := hbW10.trans (hb1012.mono hbW10.size)
                simp only [scv] at hb12 q12 hb1012 e12 hbW12 ⊢
                clear e0 htl hrt hb11 hb12 hb1012
                go_wp2_with fail
                generalize (w11.alloc _) = w12 at *
                have x0 := cell_of_row _ _ 0 _ _ _ q12
                have x1 := cell_of_row _ _ 1 _ _ _ q12
                have x4 := cell_of_row _ _ 4 _ _ _ q12
                simp at x0 x1 x4
                have hj0 : (0 : Int) ≤ (j : Int) := by omega
                have hj9 : (j : Int) < (k : Int) + 1 := by omega
                by_cases hy : yq = 1
                · have hce := HQ3.out.1 hy
                  have hyb : ((yq : Int) == 1) = true := by simp; omega
                  have hcb : ((ct : Int) == (Ej : Int)) = true := by simp; omega
                  clear hce hy
                  go_quiet (fail)
                  go_wp2_with fail
                  go_ret
                  exact ⟨rfl, hbW12.trans (drewN_below _ _ _)⟩
                · have hce : ct ≠ Ej := fun h => hy (HQ3.out.2 h)
                  have hyb : ((yq : Int) == 1) = false := by simp; omega
                  have hcb : ((ct : Int) == (Ej : Int)) = false := by simp; omega
                  clear hce hy
                  go_quiet (fail)
                  go_wp2_with fail
                  go_ret
                  exact ⟨rfl, hbW12.trans (drewN_below _ _ _)⟩
            · obtain rfl : j = k := by omega
              have hlt1 : decide ((j : Int) + 1 < (j : Int) + 1) = false := by simp
              obtain ⟨recsq, nxq, sdq, yq, hQ1, hQ2, hQ3⟩ := front_q seed base ls ct j h1 (by have := HLN.out; omega) Hall.out (by have := HLN.out; omega) hje (fun h => absurd h (by have := HLN.out; omega)) (by rw [HF.out]; omega)
              have e0 := HC.out j hj
              generalize hEj : endAt seed base ls j = Ej at *
              have HQ1 := Lib.hid hQ1
              have HEJ := Lib.hid hEj
              have HQ3 := Lib.hid hQ3
              have htl : ((chainB seed base ls).take ct).length = ct := by rw [List.length_take, HF.out]; omega
              have hrt : Rd w10 B (bv ((chainB seed base ls).take ct)) := by rw [show bv ((chainB seed base ls).take ct) = (bv (chainB seed base ls)).take ct from by simp [bv, List.map_take]]; exact ho10.rd.take
              clear hQ1 hEj hQ3
              go_wp2_with fail
              refine (over_all ((chainB seed base ls).take ct) B ct cc base seed w10 htl (by omega) (by omega) hrt hs (by omega)).mono ?_
              rw [HQ1.out]
              rintro e w11 ⟨rfl, hb11⟩
              have hb12 : Below w11.heap.size w11 (w11.alloc (Obj.cells (scv ⟨j, Ej, nxq, sdq⟩ yq) 57)) := (Below.refl _ _).alloc (Nat.le_refl _) _
              have q12 : (w11.alloc (Obj.cells (scv ⟨j, Ej, nxq, sdq⟩ yq) 57)).heap[w11.heap.size]? = some (.cells (scv ⟨j, Ej, nxq, sdq⟩ yq) 57 (0, 0)) := heap_alloc_new _ _
              have hb1012 := thn hb11 hb12
              have e12 := keep_cell hb1012 e0
              have hbW12 := hbW10.trans (hb1012.mono hbW10.size)
              simp only [scv] at hb12 q12 hb1012 e12 hbW12 ⊢
              clear e0 htl hrt hb11 hb12 hb1012
              go_wp2_with fail
              generalize (w11.alloc _) = w12 at *
              have x0 := cell_of_row _ _ 0 _ _ _ q12
              have x1 := cell_of_row _ _ 1 _ _ _ q12
              have x4 := cell_of_row _ _ 4 _ _ _ q12
              simp at x0 x1 x4
              have hj0 : (0 : Int) ≤ (j : Int) := by omega
              have hj9 : (j : Int) < (j : Int) + 1 := by omega
              by_cases hy : yq = 1
              · have hce := HQ3.out.1 hy
                have hyb : ((yq : Int) == 1) = true := by simp; omega
                have hcb : ((ct : Int) == (Ej : Int)) = true := by simp; omega
                clear hce hy
                go_quiet (fail)
                go_wp2_with fail
                go_ret
                exact ⟨rfl, hbW12.trans (drewN_below _ _ _)⟩
              · have hce : ct ≠ Ej := fun h => hy (HQ3.out.2 h)
                have hyb : ((yq : Int) == 1) = false := by simp; omega
                have hcb : ((ct : Int) == (Ej : Int)) = false := by simp; omega
                clear hce hy
                go_quiet (fail)
                go_wp2_with fail
                go_ret
                exact ⟨rfl, hbW12.trans (drewN_below _ _ _)⟩

set_option maxRecDepth 100000 in
theorem front_any (A : Option Addr) (n c : Nat) (vs : List Value) (ls : List (List UInt8)) (base : Int) (seed : Nat) (bh : List UInt8) (A4 : Option Addr) (n4 c4 : Nat) (cut : Int) (w : World) (hd : Datas w A n vs ls)
    (g3 : -9223372036854775808 ≤ base) (g4 : base ≤ 9223372036854775807) (hn : n ≤ 9223372036854775807) (hn4 : n4 ≤ 9223372036854775807) (hs : seed < 4294967296) (hb4 : bh.length = n4) (hc4 : n4 ≤ c4) (hr4 : Rd w A4 (bv bh)) (g1 : -9223372036854775808 ≤ cut) (g2 : cut ≤ 9223372036854775807) :
    Calls Try.prog 10 #[.slice A n c, .int .i64 base, .int .u32 seed, .slice A4 n4 c4, .int .i64 cut] w (EqRP w true) := by
  by_cases hall : 1 ≤ base ∧ base ≤ 4611686018427387904 ∧ n ≤ 100 ∧ n4 ≤ 32768
  · obtain ⟨h1, h2, h3, h4⟩ := hall
    obtain ⟨bs, rfl⟩ := Int.eq_ofNat_of_zero_le (a := base) (by omega)
    exact front_main A n c vs ls bs seed bh A4 n4 c4 cut w hd (by omega) (by omega) h3 h4 hs hb4 hc4 hr4 g1 g2
  · rcases (show base < 1 ∨ (1 ≤ base ∧ 4611686018427387904 < base) ∨ (1 ≤ base ∧ base ≤ 4611686018427387904 ∧ 100 < n) ∨ (1 ≤ base ∧ base ≤ 4611686018427387904 ∧ n ≤ 100 ∧ 32768 < n4) by omega) with k1 | ⟨k1, k2⟩ | ⟨k1, k2, k3⟩ | ⟨k1, k2, k3, k4⟩
    all_goals
      go_enter Try.func10, Try.ntmps10
      go_wp2_with fail
      refine (sbegun_any w).mono ?_
      rintro e w1 ⟨rfl, hb1⟩
      go_wp2_with fail
      go_ret
      exact ⟨rfl, hb1⟩
end Go.Proofs.Ytdfabjkffjacoaa
