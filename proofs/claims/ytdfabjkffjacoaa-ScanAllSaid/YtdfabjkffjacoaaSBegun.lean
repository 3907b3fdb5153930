/- Walk: flumelaw7.begun. -/
import Derived.Test.YtdfabjkffjacoaaScanP
namespace Go.Proofs.Ytdfabjkffjacoaa
open Go.RowKit Go.Shelf

theorem scan_begun : scanI (frameB 0 5 [97] ++ frameB (fsum 0 5 [97]) 6 []) 5 0 = ([(0, 5, [97]), (17, 6, [])], ⟨2, 33, 7, fsum (fsum 0 5 [97]) 6 []⟩, 1) := by
  have h := scan_chain (b := frameB 0 5 [97] ++ frameB (fsum 0 5 [97]) 6 []) [[97], []] [] [] ⟨0, 0, 5, 0⟩ 32 (by simp [chainB]) rfl (by simp) (by simp) (by simp)
  have hlen : (frameB 0 5 [97] ++ frameB (fsum 0 5 [97]) 6 []).length = 33 := by simp [frameB_length]
  unfold scanI
  rw [if_neg (by omega), hlen]
  rw [show (33 + 1 : Nat) = 32 + [[97], ([] : List UInt8)].length from rfl, show (5 : Int).toNat = 5 from rfl, h]
  have e1 : scan1 (frameB 0 5 [97] ++ frameB (fsum 0 5 [97]) 6 []) ⟨2, 33, 7, fsum (fsum 0 5 [97]) 6 []⟩ = .inr 1 := by rw [scan1, if_pos (by rw [hlen]; exact Nat.le_refl _)]
  have e2 : (chainB 0 5 [[97], []]).length = 33 := by simp [chainB, frameB_length]
  simp only [e2, chainS, List.length_cons, List.length_nil, recsAt, Nat.zero_add]
  rw [show (32 : Nat) = 31 + 1 from rfl]
  simp [scanL, e1]

theorem fw1 : fwrite 0 5 [97] = (frameB 0 5 [97], fsum 0 5 [97], 0) := by rw [fwrite, if_neg (by omega), if_neg (by simp)]; rfl
theorem fw2 (s : Nat) : fwrite s 6 [] = (frameB s 6 [], fsum s 6 [], 0) := by rw [fwrite, if_neg (by omega), if_neg (by simp)]; rfl
theorem rwrite_at (s : Int) (seed : Nat) (hs : s = seed) (hsd : seed < 4294967296) (lsn : Int) (g1 : -9223372036854775808 ≤ lsn) (g2 : lsn ≤ 9223372036854775807) (l : List UInt8) (n : Nat) (hn : l.length = n) (hlen : n ≤ 9223372036854775807) (A : Option Addr) (cp : Nat) (w : World) (hr : Rd w A (bv l)) :
    Calls Try.prog 16 #[.int .u32 s, .int .i64 lsn, .slice A n cp] w (Wrote w (fwrite seed lsn l)) := by
  subst hs; exact rwrite_n seed hsd lsn g1 g2 l n hn hlen A cp w hr
theorem over_at (s : Int) (seed : Nat) (hs : s = seed) (b : List UInt8) (A : Option Addr) (n c : Nat) (base : Int) (w : World) (hl : b.length = n) (hn : n ≤ 100000000) (hc : n ≤ c) (hr : Rd w A (bv b)) (hsd : seed < 4294967296) (g2 : base ≤ 9223372036854775807) :
    Calls Try.prog 30 #[.slice A n c, .int .i64 base, .int .u32 s] w (OverP w (scanI b base seed).2.1 (scanI b base seed).2.2) := by
  subst hs; exact over_all b A n c base seed w hl hn hc hr hsd g2
theorem find_at (s : Int) (seed : Nat) (hs : s = seed) (b : List UInt8) (A : Option Addr) (n c : Nat) (base : Int) (lsn : Int) (w : World) (hl : b.length = n) (hn : n ≤ 100000000) (hr : Rd w A (bv b)) (hsd : seed < 4294967296) (g2 : base ≤ 9223372036854775807) :
    Calls Try.prog 32 #[.slice A n c, .int .i64 base, .int .u32 s, .int .i64 lsn] w (FindP w (findL lsn (scanI b base seed).1)) := by
  subst hs; exact find_any b A n c base seed lsn w hl hn hr hsd g2
theorem recs_at (s m : Int) (seed most : Nat) (hs : s = seed) (hmm : m = most) (b : List UInt8) (A : Option Addr) (n c : Nat) (base : Int) (w : World) (hl : b.length = n) (hn : n ≤ 100000000) (hr : Rd w A (bv b)) (hsd : seed < 4294967296) (g2 : base ≤ 9223372036854775807) (hm : 1 ≤ most) :
    Calls Try.prog 31 #[.slice A n c, .int .i64 base, .int .u32 s, .int .i64 m] w (RecsP w (((scanI b base seed).1.take most).map (·.2))) := by
  subst hs hmm; exact recs_any b A n c base seed most w hl hn hr hsd g2 hm

set_option maxRecDepth 100000 in
set_option maxHeartbeats 2000000 in
theorem sbegun_any (w : World) : Calls Try.prog 28 #[] w (EqRP w true) := by
  have kc := fun (w : World) (C : Array Value) (n c : Nat) => Lib.run_convert_bytes_const (P := Try.prog) w 31 5 C n c Try.underlying31 Try.underlying5
  go_enter Try.func28, Try.ntmps28
  have hb1 : Below w.heap.size w (w.alloc (Obj.cells #[.int .u8 97] 5 (1, 2))) := (Below.refl _ _).alloc (Nat.le_refl _) _
  have hr1 : Rd (w.alloc (Obj.cells #[.int .u8 97] 5 (1, 2))) (some ⟨w.heap.size, 0, none⟩) (bv [97]) := rd_block (by rfl) (heap_alloc_new w _)
  go_wp2_with fail
  clear kc
  refine (rwrite_at 0 0 rfl (by omega) 5 (by omega) (by omega) [97] 1 rfl (by omega) _ 1 _ hr1).mono ?_
  rw [fw1]
  rintro e w1 ⟨A1, n1, c1, rfl, ho1, hb2⟩
  have hn1 : n1 = 17 := by have := ho1.len; rw [frameB_length] at this; simpa using this.symm
  subst hn1
  have hbw := hb1.trans (hb2.mono hb1.size)
  have hs1 := fsum_lt 0 5 [97]
  have hscan := Lib.hid scan_begun
  generalize fsum 0 5 [97] = S at *
  generalize frameB 0 5 [97] = F1 at *
  go_wp2_with fail
  refine (rwrite_at S S rfl hs1 6 (by omega) (by omega) [] 0 rfl (by omega) _ 0 w1 (Rd.nil _ _)).mono ?_
  rw [fw2]
  rintro e w2 ⟨A2, n2, c2, rfl, ho2, hb3⟩
  have hn2 : n2 = 16 := by have := ho2.len; rw [frameB_length] at this; simpa using this.symm
  subst hn2
  have ho12 : Own w.heap.size w2 A1 17 c1 F1 := (ho1.keep hb3).mono (by simp)
  have hbw2 := hbw.trans (hb3.mono hbw.size)
  have hs2 := fsum_lt S 6 []
  generalize fsum S 6 [] = S2 at *
  generalize frameB S 6 [] = F2 at *
  clear hb1 hr1 hb2 hb3 ho1 hbw
  go_wp2_with (at_builtin; refine wpList_append_s rfl (.tmp 25) (.tmp 26) rfl rfl rfl ho12 ho2.rd ho2.len (by omega) hbw2.size ?_; intro A3 c3 w3 ho3 hb4)
  have hcap := ho3.cap_le
  have hlen3 := ho3.len
  have hb34 : Below w.heap.size w w3 := hbw2.trans hb4
  have HL3 := Lib.hid hlen3
  clear hlen3 ho12 ho2 hb4 hbw2
  refine (over_at 0 0 rfl (F1 ++ F2) A3 33 c3 5 w3 HL3.out (by omega) hcap ho3.rd (by omega) (by omega)).mono ?_
  rw [hscan.out]
  rintro e w4 ⟨rfl, hb45⟩
  have ho4 := ho3.keep hb45
  have hb5 : Below w4.heap.size w4 (w4.alloc (Obj.cells #[.int .i64 2, .int .i64 33, .int .i64 7, .int .u32 S2, .int .i64 1] 57)) := (Below.refl _ _).alloc (Nat.le_refl _) _
  have q5 : (w4.alloc (Obj.cells #[.int .i64 2, .int .i64 33, .int .i64 7, .int .u32 S2, .int .i64 1] 57)).heap[w4.heap.size]? = some (.cells #[.int .i64 2, .int .i64 33, .int .i64 7, .int .u32 S2, .int .i64 1] 57 (0, 0)) := heap_alloc_new _ _
  have ho5 := ho4.keep hb5
  have hbw5 := hb34.trans ((hb45.trans (hb5.mono hb45.size)).mono hb34.size)
  simp only [scv]
  go_wp2_with fail
  generalize (w4.alloc _) = w5 at *
  refine (find_at 0 0 rfl (F1 ++ F2) A3 33 c3 5 6 w5 HL3.out (by omega) ho5.rd (by omega) (by omega)).mono ?_
  rw [hscan.out, show findL 6 [(0, 5, [97]), (17, 6, [])] = (6, [], 17, 0) from by decide]
  rintro e w6 ⟨A4, n4, c4, rfl, ho6', hb6⟩
  have hb7 : Below w6.heap.size w6 (w6.alloc (Obj.cells #[.int .i64 6, .slice A4 n4 c4] 34)) := (Below.refl _ _).alloc (Nat.le_refl _) _
  have q7 : (w6.alloc (Obj.cells #[.int .i64 6, .slice A4 n4 c4] 34)).heap[w6.heap.size]? = some (.cells #[.int .i64 6, .slice A4 n4 c4] 34 (0, 0)) := heap_alloc_new _ _
  have hb57 := thn hb6 hb7
  have ho7 := ho5.keep hb57
  have p7 := (hb57.block _ (Array.getElem?_eq_some_iff.1 q5).1).trans q5
  have hbw7 := hbw5.trans (hb57.mono hbw5.size)
  rw [show ((6 : Nat) : Int) = 6 from rfl, show ((17 : Nat) : Int) = 17 from rfl, show ((0 : Nat) : Int) = 0 from rfl]
  go_wp2_with fail
  generalize (w6.alloc _) = w7 at *
  refine (each_any (F1 ++ F2) A3 33 c3 5 0 w7 HL3.out (by omega) ho7.rd).mono ?_
  rintro e w8 ⟨p2, A8, c8, rfl, hE⟩
  have ho8 := ho7.keep hE.bl
  have p8 := (hE.bl.block _ (Array.getElem?_eq_some_iff.1 p7).1).trans p7
  have q8 := (hE.bl.block _ (Array.getElem?_eq_some_iff.1 q7).1).trans q7
  have hbw8 := hbw7.trans (hE.bl.mono hbw7.size)
  have x0 := cell_of_row _ _ 0 _ _ _ p8
  have x1 := cell_of_row _ _ 1 _ _ _ p8
  have x2 := cell_of_row _ _ 2 _ _ _ p8
  have x4 := cell_of_row _ _ 4 _ _ _ p8
  have y0 := cell_of_row _ _ 0 _ _ _ q8
  have hcmp : ∀ (f : Fn) (a c : Array Value) (W : World), Sem.run Try.prog (binOp BinOp.eql 68 (Value.func f a c) Value.nilFunc) W = .ok (.bool false) W := fun _ _ _ _ => by kernel_rfl
  clear hb5 q5 ho5 hbw5 hb6 hb7 q7 hb57 ho7 p7 hbw7 hE p8 q8 ho3 ho4 hb45 hb34
  simp at x0 x1 x2 x4 y0
  go_wp2_with fail
  refine (recs_at 0 9 0 9 rfl rfl (F1 ++ F2) A3 33 c3 5 w8 HL3.out (by omega) ho8.rd (by omega) (by omega) (by omega)).mono ?_
  rw [hscan.out]
  rintro e w9 ⟨v, rfl, hR, hb9⟩
  obtain ⟨xs, hxl, hrow, _⟩ := hR.ex
  obtain ⟨g9, c9, rfl⟩ := ownsRow_succ (k := 1) hrow
  clear hR hrow hxl
  go_wp2_with fail
  go_ret
  exact ⟨rfl, hbw8.trans (hb9.mono hbw8.size)⟩
end Go.Proofs.Ytdfabjkffjacoaa
