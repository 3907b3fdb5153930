/- Walks: frame.ReadHead and the reference's. -/
import Derived.Test.YtdfabjkffjacoaaHead
import Derived.Laws.BytesString
namespace Go.Proofs.Ytdfabjkffjacoaa
open Go.RowKit

/-- string(b) of bytes -/
theorem run_str (w : World) (A : Option Addr) (l : List UInt8) (n c : Nat) (hr : Rd w A (bv l)) (hn : l.length = n) (h0 : 0 < n) : (convert 31 9 (.slice A n c)).run Try.prog w = .ok (.string ⟨l.toArray⟩) w := by
  obtain ⟨ad, rfl, _⟩ := hr.byte (k := 0) (by omega)
  have e : bv l = (l.map fun b => (b.toNat : Int)).map (Value.int .u8) := by simp [bv, bval]
  have hl : (loadCells ad n).run Try.prog w = .ok ((l.map fun b => (b.toNat : Int)).map (Value.int .u8)).toArray w := by
    have := run_loadCells_list (P := Try.prog) w ad (bv l) (fun j v hj => by
      obtain ⟨ad', hA, hc⟩ := hr j v hj
      cases hA
      exact hc)
    rw [e] at this
    simpa [hn] using this
  rw [run_convert_bytes_string w _ _ _ _ n c Try.underlying31 Try.underlying5 Try.underlying9, run_bytesToString w ad n c _ hl, foldl_push_bytes]
  simp [ByteArray.empty, ByteArray.emptyWithCapacity]
  show [] ++ List.map ((fun n : Int => UInt8.ofNat n.toNat) ∘ fun b : UInt8 => (b.toNat : Int)) l = l
  rw [List.nil_append, List.map_congr_left (g := id) (fun b _ => by simp), List.map_id]

/-- what reading a head comes to: number, base, seed; sum; error -/
def rhead (l : List UInt8) : (Nat × Nat × Nat) × Nat × Nat :=
  if l.length < 32 then ((0, 0, 0), 0, 2)
  else if l.take 8 ≠ magic ∨ numB (num ((l.drop 8).take 8)) 9223372036854775807 = false ∨ numB (num ((l.drop 16).take 8)) 9223372036854775807 = false then ((0, 0, 0), 0, 4)
  else if num ((l.drop 28).take 4) ≠ mask (csum (l.take 28)) then ((0, 0, 0), 0, 5)
  else ((num ((l.drop 8).take 8), num ((l.drop 16).take 8), num ((l.drop 24).take 4)), csum (l.take 28), 0)

def RHeadP (w : World) (r : (Nat × Nat × Nat) × Nat × Nat) (e : Ending) (w' : World) : Prop :=
  e = .returned (.tuple #[.agg #[.int .i64 (r.1.1 : Int), .int .i64 (r.1.2.1 : Int), .int .u32 (r.1.2.2 : Int)], .int .u32 (r.2.1 : Int), .int .i64 (r.2.2 : Int)]) ∧ Below w.heap.size w w'

def zhead : Obj := .cells #[.int .i64 0, .int .i64 0, .int .u32 0] 50 (0, 0)

/-- the memory of a call of ReadHead -/
structure HS (w W : World) (rb B g : Nat) (l : List UInt8) (A : Option Addr) (c at_ : Nat) : Prop where
  below : Below w.heap.size w W
  one : w.heap.size + 1 ≤ B
  r0 : W.heap[w.heap.size]? = some zhead
  rs : RdrS W B g l A 24 c at_
  rv : W.heap[rb]? = some (.cells #[.pointer (some ⟨g, 0, none⟩)] 84 (0, 0))
  ne : rb ≠ g
section
variable {w W W' : World} {rb B g : Nat} {l : List UInt8} {A : Option Addr} {c at_ : Nat}
theorem HS.step {at' : Nat} (h : HS w W rb B g l A c at_) (hg : W.grownBy W' (some g)) (hb : W'.heap[g]? = some (rdr A 24 c at')) : HS w W' rb B g l A c at' := by
  have hs := h.below.size
  have h2 := h.one
  have hl := h.rs.low
  have l0 := (Array.getElem?_eq_some_iff.1 h.r0).1
  have lv := (Array.getElem?_eq_some_iff.1 h.rv).1
  have hne := h.ne
  refine ⟨h.below.grown hg hs fun k hk => by cases hk; omega, h2, ?_, h.rs.step hg hb, ?_, h.ne⟩
  · rw [hg.block _ l0 (fun e => by injection e; omega)]; exact h.r0
  · rw [hg.block _ lv (fun e => by injection e; omega)]; exact h.rv
theorem HS.keep (h : HS w W rb B g l A c at_) (hb : Below W.heap.size W W') : HS w W' rb B g l A c at_ :=
  ⟨thn h.below hb, h.one, (hb.block _ (Array.getElem?_eq_some_iff.1 h.r0).1).trans h.r0, h.rs.keep hb, (hb.block _ (Array.getElem?_eq_some_iff.1 h.rv).1).trans h.rv, h.ne⟩
theorem HS.cell (h : HS w W rb B g l A c at_) : W.cell? ⟨rb, 0, none⟩ = some (.pointer (some ⟨g, 0, none⟩)) := cell_of_row _ _ 0 _ _ _ h.rv
end

theorem rhead_ret {R : Ending → World → Prop} {a : Act} {w : World} {g : Nat} {c0 c1 c2 : Value} {t : TypeId} {fr : Nat × Nat} (hd : a.defers = []) (hp : a.tmps.getD 2 undef = .pointer (some ⟨g, 0, none⟩))
    (hg : w.heap[g]? = some (.cells #[c0, c1, c2] t fr)) (hR : R (.returned (.tuple #[.agg #[c0, c1, c2], a.tmps.getD 3 undef, a.tmps.getD 4 undef])) w) : bodyPost Try.prog Try.f26 R .ret a w :=
  bodyPost_ret (results_cell_t2 (x := 3) (y := 4) rfl _ _ _ _ _ _ _ hp hg Try.underlying50 rfl (by kernel_rfl)) hd hR
theorem rhead_none (w w' : World) (k : Nat) (hb : Below w.heap.size w w') : RHeadP w ((0, 0, 0), 0, k) (.returned (.tuple #[.agg #[.int .i64 0, .int .i64 0, .int .u32 0], .int .u32 0, .int .i64 (k : Int)])) w' :=
  ⟨rfl, hb⟩
theorem rhead_fail {w W W' : World} {k : Nat} {a : Act} (hb : Below w.heap.size w W) (h0 : W.heap[w.heap.size]? = some zhead)
    (hW : W' = W.setRow w.heap.size #[.int .i64 0, .int .i64 0, .int .u32 0]) (hd : a.defers = []) (hp : a.tmps.getD 2 undef = .pointer (some ⟨w.heap.size, 0, none⟩))
    (h3 : a.tmps.getD 3 undef = .int .u32 0) (h4 : a.tmps.getD 4 undef = .int .i64 (k : Int)) :
    bodyPost Try.prog Try.f26 (RHeadP w ((0, 0, 0), 0, k)) .ret a W' := by
  subst hW
  refine rhead_ret hd hp (setRow_heap W _ _ _ _ _ h0) ?_
  rw [h3, h4]
  exact rhead_none w _ k (hb.trans ⟨rfl, rfl, rfl, by simp, fun j hj => setRow_other _ _ j _ (by omega)⟩)
theorem cut24 (l : List UInt8) (i k : Nat) (h : i + k ≤ 24) : (((l.drop 8).take 24).drop i).take k = (l.drop (8 + i)).take k := by
  rw [List.drop_take, List.take_take, Nat.min_eq_left (by omega), List.drop_drop]

set_option maxRecDepth 100000 in
set_option maxHeartbeats 1000000 in
theorem rhead_any (l : List UInt8) (n : Nat) (hl : l.length = n) (hn : n ≤ 9223372036854775807) (A : Option Addr) (cp : Nat) (hc : n ≤ cp) (w : World) (hr : Rd w A (bv l)) :
    Calls Try.prog 26 #[.slice A n cp] w (RHeadP w (rhead l)) := by
  have hb0 : Below w.heap.size w (w.alloc (Obj.cells #[.int .i64 0, .int .i64 0, .int .u32 0] 50)) := (Below.refl _ _).alloc (Nat.le_refl _) _
  have p0 : (w.alloc (Obj.cells #[.int .i64 0, .int .i64 0, .int .u32 0] 50)).heap[w.heap.size]? = some zhead := heap_alloc_new w _
  by_cases h32 : n < 32
  · have e : Hid (rhead l = ((0, 0, 0), 0, 2)) := by rw [Hid, rhead, if_pos (by omega)]
    have hd : decide ((n : Int) < 32) = true := by simp; omega
    go_enter Try.func26, Try.ntmps26
    go_wp2
    rw [e.out]
    exact rhead_ret rfl rfl p0 (rhead_none w _ 2 hb0)
  · have hd : decide ((n : Int) < 32) = false := by simp; omega
    have hr0 := hr.keep hb0
    go_enter Try.func26, Try.ntmps26
    go_wp2_with (refine wpList_slice_lh rfl (.tmp 16) (.const (.int .i64 8)) (.const (.int .i64 32)) rfl 8 32 rfl rfl rfl (by omega) (by omega) ?_; intro A2 hA2)
    generalize (w.alloc (Obj.cells #[.int .i64 0, .int .i64 0, .int .u32 0] 50)) = W0 at *
    have hz0 : w.heap.size + 1 ≤ W0.heap.size := (Array.getElem?_eq_some_iff.1 p0).1
    obtain ⟨hrd2, hlen2⟩ := num_cut (h := 32) hr0 hA2.out hl hc (by omega)
    refine (new_any ((l.drop 8).take 24) 24 hlen2 (by omega) A2 _ W0 hrd2).mono ?_
    rintro e w1 ⟨g, A1, c1, rfl, hS, hb1⟩
    have hb2 : Below w1.heap.size w1 (w1.alloc (Obj.cells #[.pointer (some ⟨g, 0, none⟩)] 84)) := (Below.refl _ _).alloc (Nat.le_refl _) _
    have hRS : HS w (w1.alloc (Obj.cells #[.pointer (some ⟨g, 0, none⟩)] 84)) w1.heap.size W0.heap.size g ((l.drop 8).take 24) A1 c1 0 :=
      ⟨thn (thn hb0 hb1) hb2, hz0, ((thn hb1 hb2).block _ (by omega)).trans p0, hS.keep hb2, heap_alloc_new _ _, by have := hS.lt; omega⟩
    have hrv := hRS.cell
    go_wp2_with fail
    generalize (w1.alloc (Obj.cells #[.pointer (some ⟨g, 0, none⟩)] 84)) = W1 at *
    clear hrd2 hA2 hrv hS hb1 hb2 p0
    refine (number_at _ 9223372036854775807 (by omega) g A1 ((l.drop 8).take 24) 24 c1 0 (by omega) hlen2 (by omega) hRS.rs.own.cap_le hRS.rs.own.cap_max W1 hRS.rs.own.rd hRS.rs.blk).mono ?_
    rintro e W2 ⟨z1, rfl, hz1, hg2, hk2⟩
    rw [Nat.zero_add] at hk2
    rw [cut24 l 0 8 (by omega), Nat.add_zero] at hz1 ⊢
    have hR2 := hRS.step hg2 hk2
    have hrv2 := hR2.cell
    clear hg2 hk2 hRS
    generalize hNe : num ((l.drop 8).take 8) = N at *
    have HNe := Lib.hid hNe
    clear hNe
    go_wp2_with fail
    refine (number_at _ 9223372036854775807 (by omega) g A1 ((l.drop 8).take 24) 24 c1 8 (by omega) hlen2 (by omega) hR2.rs.own.cap_le hR2.rs.own.cap_max W2 hR2.rs.own.rd hR2.rs.blk).mono ?_
    rintro e W3 ⟨z2, rfl, hz2, hg3, hk3⟩
    rw [cut24 l 8 8 (by omega), show 8 + 8 = 16 from rfl] at hz2 ⊢
    have hR3 := hR2.step hg3 hk3
    clear hg3 hk3 hR2 hrv2
    generalize hBe : num ((l.drop 16).take 8) = B at *
    have HBe := Lib.hid hBe
    clear hBe
    have hr3 := hr.keep hR3.below
    have ht8 : Rd W3 A (bv (l.take 8)) := by rw [show bv (l.take 8) = (bv l).take 8 from by simp [bv, List.map_take]]; exact hr3.take
    have hstr := run_str W3 A (l.take 8) 8 cp ht8 (List.length_take_of_le (by omega)) (by omega)
    clear hr0 hr3 ht8
    have hmg : magic = [70, 76, 85, 77, 69, 76, 79, 71] := rfl
    have Hmg := Lib.hid hmg
    clear hmg
    generalize hbN : numB N 9223372036854775807 = bN at *
    have HbN := Lib.hid hbN
    clear hbN
    generalize hbB : numB B 9223372036854775807 = bB at *
    have HbB := Lib.hid hbB
    clear hbB
    by_cases hm : l.take 8 = [70, 76, 85, 77, 69, 76, 79, 71]
    · rw [hm] at hstr
      have Hm := Lib.hid hm
      clear hm
      cases bN with
      | false =>
        have e : Hid (rhead l = ((0, 0, 0), 0, 4)) := by rw [Hid, rhead, if_neg (by omega), HNe.out, HBe.out, if_pos (.inr (.inl HbN.out))]
        go_wp2_with (refine wpList_store_row rfl _ (.tmp 2) (.tmp 42) rfl _ #[.int .i64 0, .int .i64 0, .int .u32 0] rfl rfl _ _ hR3.r0 (by kernel_rfl) rfl (by kernel_rfl) ?_)
        rw [e.out]
        refine rhead_fail (k := 4) hR3.below hR3.r0 ?_ ?_ ?_ ?_ ?_ <;> rfl
      | true =>
        obtain rfl := hz1 rfl
        cases bB with
        | false =>
          have e : Hid (rhead l = ((0, 0, 0), 0, 4)) := by rw [Hid, rhead, if_neg (by omega), HNe.out, HBe.out, if_pos (.inr (.inr HbB.out))]
          go_wp2_with (refine wpList_store_row rfl _ (.tmp 2) (.tmp 42) rfl _ #[.int .i64 0, .int .i64 0, .int .u32 0] rfl rfl _ _ hR3.r0 (by kernel_rfl) rfl (by kernel_rfl) ?_)
          rw [e.out]
          refine rhead_fail (k := 4) hR3.below hR3.r0 ?_ ?_ ?_ ?_ ?_ <;> rfl
        | true =>
          obtain rfl := hz2 rfl
          clear hz1 hz2
          have hrv3 := hR3.cell
          go_wp2_with fail
          refine (read32_any g A1 ((l.drop 8).take 24) 24 c1 (8 + 8) hlen2 (by omega) hR3.rs.own.cap_le hR3.rs.own.cap_max W3 hR3.rs.own.rd hR3.rs.blk).mono ?_
          rintro e W4 ⟨rfl, hg4, hk4⟩
          rw [cut24 l (8 + 8) 4 (by omega), show 8 + (8 + 8) = 24 from rfl]
          have hR4 := hR3.step hg4 hk4
          have hgl : g < W4.heap.size := hR4.rs.lt
          have hSb := num8_lt ((l.drop 24).take 4) (Nat.le_trans (List.length_take_le _ _) (by omega))
          clear hg4 hk4 hR3 hrv3 hstr
          generalize hSe : num ((l.drop 24).take 4) = S at *
          have HSe := Lib.hid hSe
          clear hSe
          have hb5 : Below W4.heap.size W4 (W4.alloc (Obj.cells #[.int .i64 N, .int .i64 B, .int .u32 S] 50)) := (Below.refl _ _).alloc (Nat.le_refl _) _
          have hR5 := hR4.keep hb5
          have hv5 : (W4.alloc (Obj.cells #[.int .i64 N, .int .i64 B, .int .u32 S] 50)).heap[W4.heap.size]? = some (.cells #[.int .i64 N, .int .i64 B, .int .u32 S] 50 (0, 0)) := heap_alloc_new W4 _
          go_wp2_with fail
          generalize (W4.alloc (Obj.cells #[.int .i64 N, .int .i64 B, .int .u32 S] 50)) = W5 at *
          have hr5 := hr.keep hR5.below
          have ht28 : Rd W5 A (bv (l.take 28)) := by rw [show bv (l.take 28) = (bv l).take 28 from by simp [bv, List.map_take]]; exact hr5.take
          refine (csum_n (l.take 28) 28 (List.length_take_of_le (by omega)) A _ W5 ht28 (by omega)).mono ?_
          rintro e W6 ⟨rfl, hb6⟩
          have hR6 := hR5.keep hb6
          have hv6 := (hb6.block _ (Array.getElem?_eq_some_iff.1 hv5).1).trans hv5
          have hCb := csum_lt (l.take 28)
          generalize hCe : csum (l.take 28) = C at *
          have HCe := Lib.hid hCe
          have hrv6 := hR6.cell
          clear hCe hr5 ht28 hb6 hb5 hR5 hv5 hR4
          go_wp2_with fail
          refine (read32_any g A1 ((l.drop 8).take 24) 24 c1 (8 + 8 + 4) hlen2 (by omega) hR6.rs.own.cap_le hR6.rs.own.cap_max W6 hR6.rs.own.rd hR6.rs.blk).mono ?_
          rintro e W7 ⟨rfl, hg7, hk7⟩
          rw [cut24 l (8 + 8 + 4) 4 (by omega), show 8 + (8 + 8 + 4) = 28 from rfl]
          have hR7 := hR6.step hg7 hk7
          have hv7 := (hg7.block _ (Array.getElem?_eq_some_iff.1 hv6).1 (fun e => by injection e; omega)).trans hv6
          generalize hKe : num ((l.drop 28).take 4) = K at *
          have HKe := Lib.hid hKe
          clear hKe hg7 hk7 hrv6 hR6 hv6
          go_wp2_with fail
          refine (mask_any C hCb _).mono ?_
          rintro e W8 ⟨rfl, rfl⟩
          by_cases hk : K = mask C
          · have hbm : ((K : Int) != (mask C : Int)) = false := by rw [hk]; simp
            have e : Hid (rhead l = ((N, B, S), C, 0)) := by
              rw [Hid, rhead, if_neg (by omega), HNe.out, HBe.out, if_neg (by rw [HbN.out, HbB.out, Hmg.out, Hm.out]; simp), HSe.out, HCe.out, HKe.out, if_neg (by simp [hk])]
            clear hk
            go_wp2_with (first
              | (refine wpList_load_row rfl _ (.tmp 10) rfl _ rfl _ _ _ _ hv7 Try.underlying50 rfl (by kernel_rfl) ?_)
              | (refine wpList_store_row rfl _ (.tmp 2) (.tmp 59) rfl _ #[.int .i64 N, .int .i64 B, .int .u32 S] rfl rfl _ _ hR7.r0 (by kernel_rfl) rfl (by kernel_rfl) ?_))
            rw [e.out]
            refine rhead_ret rfl rfl (setRow_heap W7 _ _ _ _ _ hR7.r0) ⟨rfl, ?_⟩
            exact hR7.below.trans ⟨rfl, rfl, rfl, by simp, fun j hj => setRow_other _ _ j _ (by omega)⟩
          · have hbm : ((K : Int) != (mask C : Int)) = true := by simp; omega
            have e : Hid (rhead l = ((0, 0, 0), 0, 5)) := by
              rw [Hid, rhead, if_neg (by omega), HNe.out, HBe.out, if_neg (by rw [HbN.out, HbB.out, Hmg.out, Hm.out]; simp), HCe.out, HKe.out, if_pos hk]
            clear hk
            go_wp2_with (refine wpList_store_row rfl _ (.tmp 2) (.tmp 58) rfl _ #[.int .i64 0, .int .i64 0, .int .u32 0] rfl rfl _ _ hR7.r0 (by kernel_rfl) rfl (by kernel_rfl) ?_)
            rw [e.out]
            refine rhead_fail (k := 5) hR7.below hR7.r0 ?_ ?_ ?_ ?_ ?_ <;> rfl
    · generalize ht : l.take 8 = t at *
      have Ht := Lib.hid ht
      clear ht
      have e : Hid (rhead l = ((0, 0, 0), 0, 4)) := by rw [Hid, rhead, if_neg (by omega), HNe.out, HBe.out, if_pos (.inl (by rw [Ht.out, Hmg.out]; exact hm))]
      go_wp2_with (refine wpList_store_row rfl _ (.tmp 2) (.tmp 42) rfl _ #[.int .i64 0, .int .i64 0, .int .u32 0] rfl rfl _ _ hR3.r0 (by kernel_rfl) rfl (by kernel_rfl) ?_)
      rw [e.out]
      refine rhead_fail (k := 4) hR3.below hR3.r0 ?_ ?_ ?_ ?_ ?_ <;> rfl
end Go.Proofs.Ytdfabjkffjacoaa
