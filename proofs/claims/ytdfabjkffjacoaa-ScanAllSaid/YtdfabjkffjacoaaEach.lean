/- Walks: scan.Each, and its iterator's contract. -/
import Derived.Test.YtdfabjkffjacoaaOver
namespace Go.Proofs.Ytdfabjkffjacoaa
open Go.RowKit Go.Shelf
attribute [local go_sem] Oper.semAt_some

def encE (x : Nat × Nat × List UInt8) (v : Value) : Array Value := #[.int .i64 x.1, .agg #[.int .i64 x.2.1, v]]
def datE (x : Nat × Nat × List UInt8) : List UInt8 := x.2.2

/-- what Each comes to -/
structure EachW (w w' : World) (p2 : Nat) (A1 : Option Addr) (n c1 : Nat) (b : List UInt8) (base seed : Int) : Prop where
  cb : w'.cell? ⟨w.heap.size, 0, none⟩ = some (.int .i64 base)
  cs : w'.cell? ⟨w.heap.size + 1, 0, none⟩ = some (.int .u32 seed)
  co : w'.cell? ⟨p2, 0, none⟩ = some (.slice A1 n c1)
  own : Own w.heap.size w' A1 n c1 b
  low : w.heap.size + 2 ≤ p2
  bl : Below w.heap.size w w'
def EachP (w : World) (n : Nat) (b : List UInt8) (base seed : Int) (e : Ending) (w' : World) : Prop :=
  ∃ p2 A1 c1, e = .returned (.func (.func 52) #[] #[.pointer (some ⟨w.heap.size, 0, none⟩), .pointer (some ⟨p2, 0, none⟩), .pointer (some ⟨w.heap.size + 1, 0, none⟩)]) ∧ EachW w w' p2 A1 n c1 b base seed

set_option maxHeartbeats 400000 in
theorem each_any (b : List UInt8) (A : Option Addr) (n c : Nat) (base seed : Int) (w : World) (hl : b.length = n) (hn : n ≤ 100000000) (hr : Rd w A (bv b)) :
    Calls Try.prog 34 #[.slice A n c, .int .i64 base, .int .u32 seed] w (EachP w n b base seed) := by
  go_enter Try.func34, Try.ntmps34
  have hb2 : Below w.heap.size w ((w.alloc (Obj.cells #[.int .i64 base] 2)).alloc (Obj.cells #[.int .u32 seed] 35)) := ((Below.refl _ _).alloc (Nat.le_refl _) _).alloc (by simp) _
  have q0 : ((w.alloc (Obj.cells #[.int .i64 base] 2)).alloc (Obj.cells #[.int .u32 seed] 35)).heap[w.heap.size]? = some (.cells #[.int .i64 base] 2 (0, 0)) := heap_alloc2_old w _ _
  have q1 : ((w.alloc (Obj.cells #[.int .i64 base] 2)).alloc (Obj.cells #[.int .u32 seed] 35)).heap[w.heap.size + 1]? = some (.cells #[.int .u32 seed] 35 (0, 0)) := heap_alloc2_new w _ _
  have hz2 : ((w.alloc (Obj.cells #[.int .i64 base] 2)).alloc (Obj.cells #[.int .u32 seed] 35)).heap.size = w.heap.size + 2 := by simp
  have hr2 := hr.keep hb2
  have HL := Lib.hid hl
  have HZ := Lib.hid hz2
  clear hl hz2
  obtain ⟨W2, hW2⟩ : ∃ W2, W2 = ((w.alloc (Obj.cells #[.int .i64 base] 2)).alloc (Obj.cells #[.int .u32 seed] 35)) := ⟨_, rfl⟩
  rw [← hW2] at hb2 q0 q1 hr2 HZ
  have HW := Lib.hid hW2
  clear hW2
  go_wp2_with (at_builtin; rw [← HW.out]; refine wpList_append_s rfl (.const (.slice none 0 0)) (.tmp 8) rfl rfl rfl (Own.nil W2.heap.size W2) hr2 HL.out (by omega) (Nat.le_refl _) ?_; intro A1 c1 w1 ho1 hb1)
  go_ret
  rw [Nat.zero_add, List.nil_append] at ho1
  have hb3 : Below w1.heap.size w1 (w1.alloc (Obj.cells #[Value.slice A1 n c1] 31)) := (Below.refl _ _).alloc (Nat.le_refl _) _
  have hz := HZ.out
  have hz1 := hb1.size
  exact ⟨_, A1, c1, rfl, keep_cell (thn hb1 hb3) (cell_of_row _ _ 0 _ _ _ q0), keep_cell (thn hb1 hb3) (cell_of_row _ _ 0 _ _ _ q1), cell_of_row _ _ 0 _ _ _ (heap_alloc_new w1 _), (ho1.keep hb3).mono (by omega), by omega, thn hb2 (thn hb1 hb3)⟩

theorem scan1_why {b : List UInt8} {s : Sc} {y : Nat} (h : scan1 b s = .inr y) : y ≠ 0 ∧ y ≤ 6 := by
  unfold scan1 at h
  split at h
  · cases h; omega
  · split at h
    · split at h
      · cases h
      · cases h; omega
    · rename_i e _
      cases h
      unfold whyN
      split <;> (try split) <;> (try split) <;> omega
theorem scanL_why (b : List UInt8) : ∀ (k : Nat) (s : Sc), (scanL b k s).2.2 ≠ 0 ∧ (scanL b k s).2.2 ≤ 6
  | 0, s => by simp [scanL]
  | k + 1, s => by
    simp only [scanL]
    cases hs : scan1 b s with
    | inr y => exact scan1_why hs
    | inl x => exact scanL_why b k x.2.2
theorem items_at (b : List UInt8) (k : Nat) (s : Sc) (i : Nat) (hi : i < (scanL b k s).1.length) (hi' : i < (itemsL b k s).length) :
    (itemsL b k s)[i].2.1 = 0 ∧ (itemsL b k s)[i].1.fin = ((scanL b k s).1[i]).1 ∧ (itemsL b k s)[i].2.2.1 = ((scanL b k s).1[i]).2.1 ∧ (itemsL b k s)[i].2.2.2 = ((scanL b k s).1[i]).2.2 := by
  obtain ⟨h1, h2, _, _⟩ := itemsL_scan b k s
  have e1 := congrArg (fun l => l[i]?) h1
  have e2 := congrArg (fun l => l[i]?) h2
  simp only [List.getElem?_map, List.getElem?_eq_getElem hi', Option.map_some] at e1 e2
  rw [List.getElem?_append_left hi, List.getElem?_eq_getElem hi] at e1
  rw [List.getElem?_append_left (by simpa using hi), List.getElem?_replicate, if_pos hi] at e2
  injection e1 with e1
  injection e2 with e2
  rw [← e1]
  exact ⟨e2, rfl, rfl, rfl⟩

/-- four blocks, one behind the other -/
theorem alloc4 (w : World) (a b c d : Obj) : ∀ W, W = ((((w.alloc a).alloc b).alloc c).alloc d) →
    Below w.heap.size w W ∧ W.heap.size = w.heap.size + 4 ∧ W.heap[w.heap.size]? = some a ∧ W.heap[w.heap.size + 1]? = some b ∧ W.heap[w.heap.size + 2]? = some c ∧ W.heap[w.heap.size + 3]? = some d := by
  rintro W rfl
  refine ⟨((((Below.refl _ _).alloc (Nat.le_refl _) _).alloc (by simp) _).alloc (by simp; omega) _).alloc (by simp; omega) _, by simp, ?_, ?_, ?_, ?_⟩
  all_goals
    simp only [alloc_heap, Array.getElem?_push, Array.size_push]
    repeat (first | rw [if_pos trivial] | rw [if_pos (by omega)] | rw [if_neg (by omega)])
theorem alloc2 (w : World) (a b : Obj) : ((w.alloc a).alloc b).heap[w.heap.size]? = some a ∧ ((w.alloc a).alloc b).heap[w.heap.size + 1]? = some b := ⟨heap_alloc2_old w a b, heap_alloc2_new w a b⟩
/-- what Each's iterator keeps between two rounds of along's -/
structure EI (W : World) (J : Nat → World → Prop) (l N : Nat) (i : Nat) (V : World) : Prop where
  j0 : ∃ V0, J i V0 ∧ Only (pr W.heap.size 7) V0 V ∧ W.heap.size ≤ V0.heap.size
  le : i ≤ N
  box : V.cell? ⟨W.heap.size, 0, none⟩ = some (.func (.yield l) #[] #[])
  size : W.heap.size + 4 ≤ V.heap.size
theorem EI.only {W V V' : World} {J : Nat → World → Prop} {l N i : Nat} {R : Nat → Prop} (h : EI W J l N i V) (hO : Only R V V') (hR : ∀ j, j < V.heap.size → R j → W.heap.size < j ∧ j < W.heap.size + 7) : EI W J l N i V' := by
  obtain ⟨V0, hj, hO0, hz⟩ := h.j0
  have := h.size
  exact ⟨⟨V0, hj, hO0.trans hO (fun j hj' h' => by have := hR j (Nat.lt_of_lt_of_le hj' hO0.size) h'; exact ⟨by omega, by omega⟩), hz⟩, h.le, hO.cell (fun hr => by have := hR _ (by simp only; omega) hr; simp only at this; omega) h.box, Nat.le_trans h.size hO.size⟩

set_option maxRecDepth 100000 in
theorem each1_low (base : Int) (p1 p2 p3 : Nat) (w : World) (g1 : base < 1) (c1 : w.cell? ⟨p1, 0, none⟩ = some (.int .i64 base)) (Kp : Nat → Prop) :
    SeqP Try.prog 52 #[.pointer (some ⟨p1, 0, none⟩), .pointer (some ⟨p2, 0, none⟩), .pointer (some ⟨p3, 0, none⟩)] encE datE 7 Kp [] w := by
  intro l J Jx W hW hY h0
  have hb1 : decide (base < 1) = true := by simp; omega
  have e1 := keep_cell ((Below.refl _ _).alloc (Nat.le_refl _) (Obj.cells #[Value.func (.yield l) #[] #[]] 95)) (keep_cell hW c1)
  have HY := Lib.hid hY
  clear hY c1
  refine callsIn_wide.1 (callsIn_of_wp_marks (n := 3) Try.func52 rfl trivial ?_ rfl)
  simp only [Try.ntmps52, List.size_toArray, List.length_cons, List.length_nil, Nat.reduceAdd, Nat.reduceSub, Array.replicate_succ, Array.replicate_zero, List.push_toArray, List.append_toArray, List.nil_append, List.cons_append]
  gi_wp2
  exact ⟨_, results_none rfl _ _ _, ⟨_, rfl⟩, W, Only.of_below ((Below.refl _ _).alloc (Nat.le_refl _) _), .inl h0⟩

set_option maxRecDepth 100000 in
set_option maxHeartbeats 4000000 in
theorem each1_seq (b : List UInt8) (A : Option Addr) (n c : Nat) (base seed : Nat) (p1 p2 p3 : Nat) (w : World) (hl : b.length = n) (hn : n ≤ 100000000) (hc : n ≤ c) (hr : Rd w A (bv b)) (hsd : seed < 4294967296)
    (g1 : 1 ≤ base) (g2 : base ≤ 9223372036854775807) (c1 : w.cell? ⟨p1, 0, none⟩ = some (.int .i64 base)) (c2 : w.cell? ⟨p2, 0, none⟩ = some (.slice A n c)) (c3 : w.cell? ⟨p3, 0, none⟩ = some (.int .u32 seed)) :
    SeqP Try.prog 52 #[.pointer (some ⟨p1, 0, none⟩), .pointer (some ⟨p2, 0, none⟩), .pointer (some ⟨p3, 0, none⟩)] encE datE 7 (fun j => 0 < n ∧ ∃ ad, A = some ad ∧ j = ad.block) (scanL b (n + 1) ⟨0, 0, base, seed⟩).1 w := by
  intro l J Jx W hW hY h0
  have hb1 : decide ((base : Int) < 1) = false := by simp; omega
  have d1 := keep_cell hW c1
  have d2 := keep_cell hW c2
  have d3 := keep_cell hW c3
  have hrW := hr.keep hW
  have HY := Lib.hid hY
  have e1 := keep_cell ((Below.refl _ _).alloc (Nat.le_refl _) (Obj.cells #[Value.func (.yield l) #[] #[]] 95)) d1
  have e2 := keep_cell ((Below.refl _ _).alloc (Nat.le_refl _) (Obj.cells #[Value.func (.yield l) #[] #[]] 95)) d2
  have e3 := keep_cell ((Below.refl _ _).alloc (Nat.le_refl _) (Obj.cells #[Value.func (.yield l) #[] #[]] 95)) d3
  clear c1 c2 c3 hY d1 d2 d3
  refine callsIn_wide.1 (callsIn_of_wp_marks (n := 3) Try.func52 rfl trivial ?_ rfl)
  simp only [Try.ntmps52, List.size_toArray, List.length_cons, List.length_nil, Nat.reduceAdd, Nat.reduceSub, Array.replicate_succ, Array.replicate_zero, List.push_toArray, List.append_toArray, List.nil_append, List.cons_append]
  gi_wp2_with (refine ⟨trivial, ?_⟩; gi_at_call 51; refine (callsIn_wide.2 (along_any A n c base seed _)).mono ?_; rintro e w9 ⟨rfl, rfl⟩)
  obtain ⟨W4, hW4⟩ : ∃ W4, W4 = ((((W.alloc (Obj.cells #[Value.func (.yield l) #[] #[]] 95)).alloc (Obj.cells #[.slice A n c] 31)).alloc (Obj.cells #[.int .i64 base] 2)).alloc (Obj.cells #[.int .u32 seed] 35)) := ⟨_, rfl⟩
  obtain ⟨hb4, hz4, q0, q1, q2, q3⟩ := alloc4 W _ _ _ _ W4 hW4
  rw [← hW4]
  clear hW4 e1 e2 e3
  have hrW4 := hrW.keep hb4
  have HZ := Lib.hid hz4
  have HA : Hid (∀ _ : 0 < n, ∀ ad, A = some ad → ad.block < W.heap.size) := fun h0 ad ha => hrW.lt (fun e => by have := bv_length b; rw [e] at this; simp at this; omega) ad ha
  obtain ⟨hs1, hs2, hs3, hs4⟩ := itemsL_scan b (n + 1) ⟨0, 0, base, seed⟩
  obtain ⟨hy0, hy6⟩ := scanL_why b (n + 1) ⟨0, 0, base, seed⟩
  have hsq := along1_seq b A n c base seed (W.heap.size + 1 + 1) (W.heap.size + 1 + 2) (W.heap.size + 1) W4 hl hn hc hrW4 hsd g1 g2 (cell_of_row _ _ 0 _ _ _ q2) (cell_of_row _ _ 0 _ _ _ q3) (cell_of_row _ _ 0 _ _ _ q1)
  have HI : Hid (∀ i, _) := Lib.hid (items_at b (n + 1) ⟨0, 0, base, seed⟩)
  generalize hxs : itemsL b (n + 1) ⟨0, 0, base, seed⟩ = xs at *
  generalize hsc : scanL b (n + 1) ⟨0, 0, base, seed⟩ = sc at *
  have HSC := Lib.hid hsc
  clear hsc
  have HS3 := Lib.hid hs3
  have HS4 := Lib.hid hs4
  have HY0 := Lib.hid hy0
  clear hxs hs1 hs2 hs3 hs4 hz4 hl hrW4 hy0
  have hbox : W4.cell? ⟨W.heap.size, 0, none⟩ = some (.func (.yield l) #[] #[]) := cell_of_row _ _ 0 _ _ _ q0
  refine wp_rangeP (gf := 61) rfl (enters_of Try.func61 (by kernel_rfl) rfl) hsq (fun _ _ => rfl) (EI W J l sc.1.length)
    (fun c _ V => c = .ret ∧ ∃ V0, Only (pr W.heap.size 7) V0 V ∧ W.heap.size ≤ V.heap.size ∧ (J sc.1.length V0 ∨ ∃ k, 0 < k ∧ k ≤ sc.1.length ∧ Jx k V0)) ⟨⟨W, h0, Only.of_below hb4, Nat.le_refl _⟩, Nat.zero_le _, hbox, by have := HZ.out; omega⟩
    (fun x v W1 a' W2 => W2.heap[W1.heap.size]? = some (.cells (scv x.1 x.2.1) 57 (0, 0)) ∧ W2.heap[W1.heap.size + 1]? = some (.cells #[.int .i64 x.2.2.1, v] 34 (0, 0)) ∧ a'.defers = [] ∧ ∃ u13 u14, a'.tmps = #[.func (.yield l) #[] #[], .pointer (some ⟨p1, 0, none⟩), .pointer (some ⟨p2, 0, none⟩), .pointer (some ⟨p3, 0, none⟩), .pointer (some ⟨W.heap.size, 0, none⟩), .pointer (some ⟨W1.heap.size, 0, none⟩), .pointer (some ⟨W1.heap.size + 1, 0, none⟩), .int .i64 base, .bool false, .slice A n c, .int .i64 base, .int .u32 seed,
      .func (.func 61) #[] #[.pointer (some ⟨W.heap.size + 1 + 1, 0, none⟩), .pointer (some ⟨W.heap.size + 1 + 2, 0, none⟩), .pointer (some ⟨W.heap.size + 1, 0, none⟩)], u13, u14, undef, undef, undef, undef, undef, undef, undef, undef, undef, undef, undef]) ?assign ?body ?kp ?done ?stop
  case assign =>
    intro l x A' m' cc' W1
    simp only [encS, scv]
    gi_wp2
    obtain ⟨r0, r1⟩ := alloc2 W1 (.cells #[.int .i64 x.1.cnt, .int .i64 x.1.fin, .int .i64 x.1.nxt, .int .u32 x.1.sd, .int .i64 x.2.1] 57) (.cells #[.int .i64 x.2.2.1, .slice A' m' cc'] 34)
    exact ⟨((Below.refl _ _).alloc (Nat.le_refl _) _).alloc (by simp) _, r0, r1, trivial, _, _, rfl⟩
  case body =>
    rintro l' i A1 m cc W0 W1 W2 W3 a' hi hI hle hO hsz ho hlow hb ⟨hx, hx', hd, u13, u14, ht⟩ hO3
    obtain ⟨tmps, defers⟩ := a'
    simp only at hd ht
    subst hd
    subst ht
    have hz4 := HZ.out
    have hI1 := hI.only hO (fun j _ hj => ⟨by have := hj.1; omega, by have := hj.2; omega⟩)
    have hI2 := hI1.only (R := fun _ => False) (Only.of_below hb) (fun _ _ h => h.elim)
    have hI3 := hI2.only hO3 (fun j _ hj => by omega)
    have x3 := hO3.row (g := W1.heap.size) (by omega) hx
    have x4 := hO3.row (g := W1.heap.size + 1) (by omega) hx'
    have y1 := cell_of_row _ _ 1 _ _ _ x3
    have y4 := cell_of_row _ _ 4 _ _ _ x3
    have z0 := cell_of_row _ _ 0 _ _ _ x4
    have z1 := cell_of_row _ _ 1 _ _ _ x4
    simp [scv] at y1 y4
    have hbx := hI3.box
    obtain ⟨V0, hj0, hO0, hzV⟩ := hI.j0
    have hO1 : Only (pr W.heap.size 7) V0 W1 := hO0.trans hO (fun j _ hj => ⟨by have := hj.1; omega, by have := hj.2; omega⟩)
    have hO2 : Only (pr W.heap.size 7) V0 W2 := hO1.trans (Only.of_below (R := fun _ => False) hb) (fun _ _ h => h.elim)
    have hOV : Only (pr W.heap.size 7) V0 W3 := hO2.trans hO3 (fun j _ hj => ⟨by omega, by omega⟩)
    have ho3 : Own V0.heap.size W3 A1 m cc (datS xs[i]) := (hO3.own (fun ad ha hr => by have := hlow ad ha; omega) (ho.keep hb)).mono hO0.size
    have HLW : Hid (∀ ad, A1 = some ad → W.heap.size + 7 ≤ ad.block) := fun ad ha => by have := hlow ad ha; omega
    have hs23 := hO3.size
    have hs12 := hb.size
    have hWz : W.heap.size + 7 ≤ W3.heap.size := by omega
    clear hO hb hO3 hI1 hI2 hO1 hO2 hx hx' ho hlow x3 x4 hO0
    by_cases hir : i < sc.1.length
    · obtain ⟨k1, k2, k3, k4⟩ := HI.out i hir hi
      rw [k1] at y4
      rw [k2] at y1
      rw [k3] at z0
      unfold datS at ho3
      rw [k4] at ho3
      have hY9 := HY.out i V0 W3 A1 m cc hir hj0 hOV hWz hzV ho3 HLW.out
      clear k1 k2 k3 k4
      obtain ⟨fn, tmps, assign, body, hy, hR⟩ := hY9
      unfold encE at hy
      generalize sc.1[i] = r at hy y1 z0 ho3
      gi_wp2
      refine (roundIn_wide hR).mono ?_
      rintro e V' (⟨rfl, hJ', hK⟩ | ⟨rfl, hJ', hK⟩)
      · gi_wp2
        have hsV := hK.size
        refine ⟨⟨hsV, fun j hj => hK.same j ?_⟩, ⟨V', hJ', Only.refl _, by omega⟩, hir, (World.cell?_of_block (hK.same _ (.inl ⟨Nat.le_refl _, by simp only; omega⟩))).trans hbx, by omega⟩
        rcases hj with hj | rfl | hj
        · exact .inl ⟨by have := hj.1; omega, by have := hj.2; omega⟩
        · exact .inl ⟨by omega, by omega⟩
        · exact .inr hj
      · gi_wp2
        have hsV := hK.size
        refine ⟨⟨hsV, fun j hj => hK.same j ?_⟩, rfl, V', Only.refl _, by omega, .inr ⟨i + 1, by omega, by omega, hJ'⟩⟩
        rcases hj with hj | rfl | hj
        · exact .inl ⟨by have := hj.1; omega, by have := hj.2; omega⟩
        · exact .inl ⟨by omega, by omega⟩
        · exact .inr hj
    · have hie : i = sc.1.length := by have := hI.le; omega
      subst hie
      have e9 : xs[sc.1.length] = (sc.2.1, sc.2.2, 0, []) := by
        have := HS4.out
        rw [List.getElem?_eq_getElem hi] at this
        injection this
      rw [e9] at y4
      have hyb : ((sc.2.2 : Int) != 0) = true := by have := HY0.out; simp; omega
      simp only at y4
      gi_wp2
      refine ⟨fun _ h => (by cases h), ?_⟩
      gi_wp2
      exact ⟨⟨Nat.le_refl _, fun _ _ => rfl⟩, rfl, V0, hOV, by omega, .inl hj0⟩
  case kp =>
    rintro j (rfl | ⟨hn0, ad, ha, rfl⟩)
    · have := HZ.out; omega
    · have := HA.out hn0 ad ha; have := HZ.out; omega
  case done =>
    intro W0 V hI hle hO hk
    have := hI.le
    have := HS3.out
    omega
  case stop =>
    rintro c' i W0 V hip hil ⟨rfl, V0, hOV, hsz, hJ⟩ hle hO hk
    have hz4 := HZ.out
    have hOV2 : Only (pr W.heap.size 7) V0 V := hOV.trans hO (fun j _ hj => ⟨by have := hj.1; omega, by have := hj.2; omega⟩)
    gi_wp2
    refine bodyPostM_ret rfl hk (results_none rfl _ _ _) ⟨⟨_, rfl⟩, V0, hOV2.trans (only_putObj V W4.heap.size (.deferred none)) (fun j _ hj => ⟨by omega, by omega⟩), ?_⟩
    rw [HSC.out]
    exact hJ
end Go.Proofs.Ytdfabjkffjacoaa
