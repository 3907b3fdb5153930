/- Walk: flumelaw7.ScanAll. -/
import Derived.Test.YtdfabjkffjacoaaSAllP
import Derived.Test.YtdfabjkffjacoaaMinMax
import Derived.Test.YtdfabjkffjacoaaHeldIn
import Derived.Deep.Cut
import Derived.Deep.CutBlock
import Derived.Deep.CutRange
import Derived.Shelf.RegionOpen
import Derived.Sort.CutIn
namespace Go.Proofs.Ytdfabjkffjacoaa
open Go.RowKit Go.Shelf
attribute [local go_sem] Oper.semAt_some

set_option maxRecDepth 100000 in
set_option maxHeartbeats 8000000 in
theorem scanall_main (b : List UInt8) (A : Option Addr) (n c : Nat) (base : Int) (seed : Nat) (most : Int) (w : World) (hl : b.length = n) (hn : n ≤ 131072) (hc : n ≤ c) (hcm : c ≤ 9223372036854775807) (hr : Rd w A (bv b)) (hsd : seed < 4294967296) (g2 : base ≤ 9223372036854775807)
    (zs : List Int) (Z : Option Addr) (nz cz : Nat) (hz : Nums w .i64 (-9223372036854775808) 9223372036854775807 Z nz zs) :
    Calls Try.prog 8 #[.slice A n c, .int .i64 base, .int .u32 seed, .int .i64 most, .slice Z nz cz] w (EqRP w true) := by
  have b2 : decide ((131072 : Int) < (n : Int)) = false := by simp; omega
  refine callsIn_wide.1 (callsIn_of_wp_marks (n := 3) Try.func8 rfl trivial ?_ rfl)
  simp only [Try.ntmps8, List.size_toArray, List.length_cons, List.length_nil, Nat.reduceAdd, Nat.reduceSub, Array.replicate_succ, Array.replicate_zero, List.push_toArray, List.append_toArray, List.nil_append, List.cons_append]
  refine wpIn_wide.2 ?_
  have q0 := heap_alloc_new w (Obj.cells #[.bool false] 4)
  have hb0 : Below w.heap.size w (w.alloc (Obj.cells #[.bool false] 4)) := (Below.refl _ _).alloc (Nat.le_refl _) _
  go_wp2_with fail
  generalize (w.alloc (Obj.cells #[.bool false] 4)) = w0 at *
  refine (sbegun_any w0).mono ?_
  rintro e w1 ⟨rfl, hb1⟩
  have hb01 := hb0.trans (hb1.mono hb0.size)
  have q1 := (hb1.block _ (Array.getElem?_eq_some_iff.1 q0).1).trans q0
  have hr1 := hr.keep hb01
  clear hb0 hb1 q0
  go_wp2_with fail
  refine (lent_any b n c hl (by omega) A w1 hr1).mono ?_
  rintro e w2 ⟨A1, c1, rfl, ho2, hb2⟩
  have hb02 := hb01.trans (hb2.mono hb01.size)
  have q2 := (hb2.block _ (Array.getElem?_eq_some_iff.1 q1).1).trans q1
  have hr2 := hr1.keep hb2
  have hw1 : w.heap.size + 1 ≤ w1.heap.size := (Array.getElem?_eq_some_iff.1 q1).1
  have ho2' := ho2.mono hw1
  have hA2lt : ∀ ad, A1 = some ad → ad.block < w2.heap.size := fun ad ha => (ho2.lt ad ha).2
  clear hb01 q1 hr1 hb2 ho2
  go_wp2_with fail
  refine (rall_all b A n c base seed w2 hl (by omega) hc hcm hr2 hsd g2).mono ?_
  obtain ⟨⟨ps, ⟨cn, fi, nx, sd⟩, y⟩, hS⟩ : ∃ r, scanI b base seed = r := ⟨_, rfl⟩
  rw [hS]
  have hlen := scanI_len b base seed
  have hdat := scanI_dat b base seed
  rw [hS] at hlen hdat
  have HS := Lib.hid hS
  clear hS
  rintro e w3 ⟨v, rfl, hP3, hb3⟩
  have hb03 := hb02.trans (hb3.mono hb02.size)
  have q3 := (hb3.block _ (Array.getElem?_eq_some_iff.1 q2).1).trans q2
  have hr3 := hr2.keep hb3
  have ho3 := ho2'.keep hb3
  obtain ⟨D, cD, rfl, hP⟩ := PV.of hP3
  have hb0g : w2.heap.size ≤ w3.heap.size := hb3.size
  have hb0w : w.heap.size + 1 ≤ w2.heap.size := (Array.getElem?_eq_some_iff.1 q2).1
  generalize hb0 : w2.heap.size = b0 at *
  clear hb0
  clear hb02 q2 hr2 hb3 ho2' hP3
  simp only [scv] at hlen hdat ⊢
  have HDAT := Lib.hid hdat
  clear hdat
  go_wp2_with fail
  obtain ⟨W5, hW5⟩ : ∃ W5, W5 = ((w3.alloc (Obj.cells #[.int .i64 cn, .int .i64 fi, .int .i64 nx, .int .u32 sd, .int .i64 y] 57)).alloc (Obj.cells #[.slice D ps.length cD] 58)) := ⟨_, rfl⟩
  have hb5 : Below w3.heap.size w3 W5 := by rw [hW5]; exact ((Below.refl _ _).alloc (Nat.le_refl _) _).alloc (by simp) _
  have p12 : W5.heap[w3.heap.size]? = some (.cells #[.int .i64 cn, .int .i64 fi, .int .i64 nx, .int .u32 sd, .int .i64 y] 57 (0, 0)) := by rw [hW5]; exact heap_alloc2_old w3 _ _
  have p13 : W5.heap[w3.heap.size + 1]? = some (.cells #[.slice D ps.length cD] 58 (0, 0)) := by rw [hW5]; exact heap_alloc2_new w3 _ _
  have hz5 : W5.heap.size = w3.heap.size + 2 := by rw [hW5]; simp
  rw [← hW5]
  clear hW5
  have hb05 := hb03.trans (hb5.mono hb03.size)
  have q5 := (hb5.block _ (Array.getElem?_eq_some_iff.1 q3).1).trans q3
  have hr5 := hr3.keep hb5
  have ho5 := ho3.keep hb5
  have hP5 := hP.keep hb5
  have hk5 : w3.heap.size = W5.heap.size - 2 := by omega
  have hw3 : w.heap.size + 1 ≤ w3.heap.size := (Array.getElem?_eq_some_iff.1 q3).1
  generalize hg12 : w3.heap.size = g12 at *
  clear hg12 hb5 hb03 q3 hr3 ho3 hP hk5
  have hlo : (b ++ marks).length = n + 2 := by rw [List.length_append, hl]; rfl
  have hc1 := ho5.cap_le
  have hro5 := rd_pre ho5.rd
  have hcmp := scan_same cn fi nx sd y
  have c0 := cell_of_row _ _ 0 _ _ _ p12
  have c1' := cell_of_row _ _ 1 _ _ _ p12
  have c2 := cell_of_row _ _ 2 _ _ _ p12
  have c3 := cell_of_row _ _ 3 _ _ _ p12
  have c4 := cell_of_row _ _ 4 _ _ _ p12
  simp at c0 c1' c2 c3 c4
  have hov := over_all b A1 n c1 base seed W5.drew hl (by omega) (by omega) hro5 hsd g2
  rw [HS.out] at hov
  have d0 : W5.drew.cell? ⟨g12, 0, none⟩ = some (.int .i64 cn) := c0
  have d1 : W5.drew.cell? ⟨g12, 1, none⟩ = some (.int .i64 fi) := c1'
  have d2 : W5.drew.cell? ⟨g12, 2, none⟩ = some (.int .i64 nx) := c2
  have d3 : W5.drew.cell? ⟨g12, 3, none⟩ = some (.int .u32 sd) := c3
  have d4 : W5.drew.cell? ⟨g12, 4, none⟩ = some (.int .i64 y) := c4
  clear c0 c1' c2 c3 c4
  go_region_held3 (fun w' => w'.cell? ⟨g12, 0, none⟩ = some (.int .i64 cn) ∧ w'.cell? ⟨g12, 1, none⟩ = some (.int .i64 fi) ∧ w'.cell? ⟨g12, 2, none⟩ = some (.int .i64 nx) ∧ w'.cell? ⟨g12, 3, none⟩ = some (.int .u32 sd) ∧ w'.cell? ⟨g12, 4, none⟩ = some (.int .i64 y)) (first | with_reducible exact ⟨d0, d1, d2, d3, d4⟩ | with_reducible exact ⟨keep_cell hb6 d0, keep_cell hb6 d1, keep_cell hb6 d2, keep_cell hb6 d3, keep_cell hb6 d4⟩)
    (first | (go_at_call 30; (with_reducible refine hov.mono ?_); rintro e w6 ⟨rfl, hb6⟩; simp only [scv]))
  have hb56 : Below W5.heap.size W5 w6 := (drewN_below W5.heap.size W5 1).trans hb6
  have hb06 := hb05.trans (hb56.mono hb05.size)
  have q6 := (hb56.block _ (Array.getElem?_eq_some_iff.1 q5).1).trans q5
  have p6 := (hb56.block _ (Array.getElem?_eq_some_iff.1 p13).1).trans p13
  have hr6 := hr5.keep hb56
  have ho6 := ho5.keep hb56
  have hP6 := hP5.keep hb56
  have hs6 := hb56.size
  have hA6 : ∀ ad, A1 = some ad → ad.block < w6.heap.size := fun ad ha => (ho6.lt ad ha).2
  clear hb05 q5 p12 p13 hr5 ho5 hP5 hro5 hcmp hov d0 d1 d2 d3 d4 hb6 hb56
  rename_i hHeld
  clear hHeld
  go_wp2_with fail
  refine (recs_all b A1 n c1 base seed most w6 hl (by omega) (rd_pre ho6.rd) hsd g2).mono ?_
  rw [HS.out]
  rintro e w7 ⟨v, rfl, hR, hb7⟩
  obtain ⟨D2, cD2, f, rfl, hRV⟩ := RV.of hR (Nat.le_refl _)
  have hb07 := hb06.trans (hb7.mono hb06.size)
  have q7 := (hb7.block _ (Array.getElem?_eq_some_iff.1 q6).1).trans q6
  have p7 := (hb7.block _ (Array.getElem?_eq_some_iff.1 p6).1).trans p6
  have hr7 := hr6.keep hb7
  have ho7 := ho6.keep hb7
  have hP7 := hP6.keep hb7
  have hs7 := hb7.size
  clear hb06 q6 p6 hr6 ho6 hP6 hR hb7
  have c13 := cell_of_row _ _ 0 _ _ _ p7
  simp at c13
  generalize hrs : (ps.take most.toNat).map (·.2) = rs at *
  have hrl : rs.length = min most.toNat ps.length := by rw [← hrs, List.length_map, List.length_take]
  have hrlI : (rs.length : Int) = max 0 (min most ps.length) := by omega
  have HRL := Lib.hid hrl
  obtain ⟨mm, hmm⟩ : ∃ mm : Int, (if (ps.length : Int) < most then (ps.length : Int) else most) = mm := ⟨_, rfl⟩
  have hmx : (if 0 < mm then mm else 0) = (rs.length : Int) := by
    rw [← hmm]
    clear hmm
    omega
  have hnn : ((rs.length : Int) != (rs.length : Int)) = false := by simp
  clear hrl hrlI
  go_wp2_with fail
  have hk7 : Below w7.heap.size w7 ((w7.alloc (Obj.cells #[.slice none 0 0, .int .i64 0] 30)).alloc (Obj.cells #[.pointer (some ⟨w7.heap.size, 0, none⟩)] 27)) := ((Below.refl _ _).alloc (Nat.le_refl _) _).alloc (by simp) _
  have pk0 : ((w7.alloc (Obj.cells #[.slice none 0 0, .int .i64 0] 30)).alloc (Obj.cells #[.pointer (some ⟨w7.heap.size, 0, none⟩)] 27)).heap[w7.heap.size]? = some (.cells #[.slice none 0 0, .int .i64 0] 30 (0, 0)) := heap_alloc2_old w7 _ _
  have pk1 : ((w7.alloc (Obj.cells #[.slice none 0 0, .int .i64 0] 30)).alloc (Obj.cells #[.pointer (some ⟨w7.heap.size, 0, none⟩)] 27)).heap[w7.heap.size + 1]? = some (.cells #[.pointer (some ⟨w7.heap.size, 0, none⟩)] 27 (0, 0)) := heap_alloc2_new w7 _ _
  have hz9 : ((w7.alloc (Obj.cells #[.slice none 0 0, .int .i64 0] 30)).alloc (Obj.cells #[.pointer (some ⟨w7.heap.size, 0, none⟩)] 27)).heap.size = w7.heap.size + 2 := by simp
  generalize ((w7.alloc (Obj.cells #[.slice none 0 0, .int .i64 0] 30)).alloc (Obj.cells #[.pointer (some ⟨w7.heap.size, 0, none⟩)] 27)) = W9 at *
  have hA1lt := ho7.lt
  have hb09 := hb07.trans (hk7.mono hb07.size)
  have q9 := (hk7.block _ (Array.getElem?_eq_some_iff.1 q7).1).trans q7
  have p9 := (hk7.block _ (Array.getElem?_eq_some_iff.1 p7).1).trans p7
  have hr9 := hr7.keep hk7
  have ho9 := ho7.keep hk7
  have hP9 := hP7.keep hk7
  have hR9 := hRV.keep hk7
  have hp7 : g12 + 1 < w7.heap.size := (Array.getElem?_eq_some_iff.1 p7).1
  have hAlt : b ≠ [] → ∀ ad, A = some ad → ad.block < w.heap.size := fun hne ad ha => hr.lt (by intro h; exact hne (by simpa [bv] using h)) ad ha
  clear hb07 q7 p7 hr7 ho7 hP7 hRV hk7 c13 hmm hmx hnn
  generalize w7.heap.size = p at *
  have hKK : KKP (w.heap.size + 1) p (fun j => p ≤ j ∧ j ≠ p + 1) W9.heap.size (fun j => ∃ q, q < 0 ∧ ∃ ad, (f q).1 = some ad ∧ j = ad.block) W9 := KKP.new rfl pk0 (by omega) ⟨Nat.le_refl _, by omega⟩ (by omega)
  have hps : ∀ k (h : k < rs.length), ∃ h' : k < ps.length, rs[k] = ps[k].2 := fun k h => by
    have h2 := HRL.out
    subst hrs
    refine ⟨by omega, ?_⟩
    simp
  have HPS := Lib.hid hps
  clear pk0 hps
  clear hrs
  go_loopw [17] (fun i wr => ∃ k : Nat, k ≤ rs.length ∧ i = .int .i64 k ∧ Only (fun j => p ≤ j ∧ j ≠ p + 1) W9 wr ∧ KKP (w.heap.size + 1) p (fun j => p ≤ j ∧ j ≠ p + 1) wr.heap.size (fun j => ∃ q, q < k ∧ ∃ ad, (f q).1 = some ad ∧ j = ad.block) wr) (fun i _ => rs.length - (intOf i).toNat)
  case atStart => exact ⟨0, by omega, rfl, Only.refl _, hKK⟩
  case round =>
    obtain ⟨k, hk, rfl, hO, hKr⟩ := hrel
    by_cases hlt : k < rs.length
    · have hk0 : (0 : Int) ≤ (k : Int) := by omega
      have hk1 : (k : Int) < (rs.length : Int) := by omega
      obtain ⟨hkp, hrk⟩ := HPS.out k hlt
      have hk2 : (k : Int) < (ps.length : Int) := by omega
      obtain ⟨ad1, A2, cA2, rfl, e0, e1, e2, hrd2, hcc2, hA2⟩ := (hP9.only hO (fun j _ hj hr => by have := hr.1; omega)).each k hkp
      obtain ⟨ad2, rfl, s0, s1, hos, hAs⟩ := (hR9.only hO (fun j hj hr => by have := hr.1; omega)).each k hlt
      have q10 := hO.row (fun hr => by have := hr.1; omega) q9
      have p10 := cell_of_row _ _ 0 _ _ _ (hO.row (g := g12 + 1) (fun hr => by have := hr.1; omega) p9)
      have k10 := cell_of_row _ _ 0 _ _ _ (hO.row (g := p + 1) (fun hr => hr.2 rfl) pk1)
      simp at p10 k10
      have hls : ps[k].2.2.length ≤ 131072 := by have := HDAT.out _ (List.getElem_mem hkp); omega
      rw [hrk] at s0 s1 hos
      have hTk : (fun j => ∃ q, q < k + 1 ∧ ∃ ad, (f q).1 = some ad ∧ j = ad.block) = (fun j => (∃ q, q < k ∧ ∃ ad, (f q).1 = some ad ∧ j = ad.block) ∨ ∃ ad, (f k).1 = some ad ∧ j = ad.block) := by
        funext j
        apply propext
        constructor
        · rintro ⟨q, hq, h⟩
          by_cases e : q = k
          · subst e; exact .inr h
          · exact .inl ⟨q, by omega, h⟩
        · rintro (⟨q, hq, h⟩ | h)
          · exact ⟨q, by omega, h⟩
          · exact ⟨k, by omega, h⟩
      have hnT : ∀ ad, (f k).1 = some ad → ¬ (∃ q, q < k ∧ ∃ ad', (f q).1 = some ad' ∧ ad.block = ad'.block) := fun ad ha ⟨q, hq, ad', ha', e⟩ => hR9.dis q k hq hlt ad' ad ha' ha e.symm
      have HTK := Lib.hid hTk
      have HNT := Lib.hid hnT
      clear hTk hnT hrk
      generalize f k = fk at *
      obtain ⟨A3, c3⟩ := fk
      generalize ps[k] = x at *
      obtain ⟨x1, x2, x3⟩ := x
      simp only at *
      have hos1 := hos.mono (show w.heap.size + 1 ≤ w6.heap.size by omega)
      have heq := eqr_any x2 x2 x3 x3 x3.length x3.length rfl rfl (by omega) A3 A2 c3 cA2 wr.drew hos1.rd hrd2
      rw [show recB (x2 : Int) x2 x3 x3 = true from by simp [recB, eqB]] at heq
      have d0 : wr.drew.cell? (ad2.add (k * 2)) = some (.int .i64 x2) := s0
      have d1 : wr.drew.cell? ⟨(ad2.add (k * 2)).block, (ad2.add (k * 2)).off + 1, none⟩ = some (.slice A3 x3.length c3) := s1
      have d2 : wr.drew.cell? ⟨g12 + 1, 0, none⟩ = some (.slice (some ad1) ps.length cD) := p10
      have d3 : wr.drew.cell? ⟨(ad1.add (k * 3)).block, (ad1.add (k * 3)).off + 1, none⟩ = some (.int .i64 x2) := e1
      have d4 : wr.drew.cell? ⟨(ad1.add (k * 3)).block, (ad1.add (k * 3)).off + 2, none⟩ = some (.slice A2 x3.length cA2) := e2
      clear s0 e0 e1 e2
      go_wp2_with fail
      go_region_held3 (fun w' => w'.cell? (ad2.add (k * 2)) = some (.int .i64 x2) ∧ w'.cell? ⟨(ad2.add (k * 2)).block, (ad2.add (k * 2)).off + 1, none⟩ = some (.slice A3 x3.length c3) ∧ w'.cell? ⟨g12 + 1, 0, none⟩ = some (.slice (some ad1) ps.length cD) ∧ w'.cell? ⟨(ad1.add (k * 3)).block, (ad1.add (k * 3)).off + 1, none⟩ = some (.int .i64 x2) ∧ w'.cell? ⟨(ad1.add (k * 3)).block, (ad1.add (k * 3)).off + 2, none⟩ = some (.slice A2 x3.length cA2)) (first | with_reducible exact ⟨d0, d1, d2, d3, d4⟩ | with_reducible exact ⟨keep_cell hb10 d0, keep_cell hb10 d1, keep_cell hb10 d2, keep_cell hb10 d3, keep_cell hb10 d4⟩)
        (first | (go_at_call 23; (with_reducible refine heq.mono ?_); rintro e w10 ⟨rfl, hb10⟩))
      rename_i hHeld
      have hbw10 : Below wr.heap.size wr w10 := (drewN_below wr.heap.size wr 1).trans hb10
      have hK10 := hKr.keep hbw10
      have hos10 := hos1.keep hbw10
      have k11 := keep_cell hbw10 k10
      have hO10 : Only (fun j => p ≤ j ∧ j ≠ p + 1) W9 w10 := hO.trans (Only.of_below (R := fun _ => False) hbw10) (fun _ _ h => h.elim)
      have s11 := hHeld.2.1
      have hsz10 := hbw10.size
      clear hHeld d0 d1 d2 d3 d4 heq hb10 hbw10 hKr hos1 hos k10 hO hrd2 p10 q10
      have hadp : ad2.block < p := hR9.dlt ad2 rfl
      have hpw : p + 1 < w10.heap.size := World.block_lt_of_cell? _ _ k11
      have hkeep := keep1_any (W := (w10.alloc (Obj.cells #[.slice A3 x3.length c3] 31)).drew) (A := A3) (n := x3.length) (c := c3) (g := w10.heap.size) (l := x3) (hK10.keep (below_alloc_drew w10 _)) (fun j hj => by have h2 := (below_alloc_drew w10 (Obj.cells #[.slice A3 x3.length c3] 31)).size; exact ⟨by omega, by omega⟩)
        (hos10.keep (below_alloc_drew w10 _)) (by omega) (fun ad ha => ⟨HNT.out ad ha, .inl (fun h => by have := hAs ad ha; have := h.1; omega)⟩) (cell_of_row _ _ 0 _ _ _ (heap_alloc_new w10 _)) (.inr hsz10)
      have k11a : w10.drew.cell? ⟨p + 1, 0, none⟩ = some (.pointer (some ⟨p, 0, none⟩)) := k11
      have s11a : w10.drew.cell? ⟨(ad2.add (k * 2)).block, (ad2.add (k * 2)).off + 1, none⟩ = some (.slice A3 x3.length c3) := s11
      have k11b := keep_cell (below_alloc_drew w10 (Obj.cells #[.slice A3 x3.length c3] 31)) k11
      have s11b := keep_cell (below_alloc_drew w10 (Obj.cells #[.slice A3 x3.length c3] 31)) s11
      go_wp2_with fail
      go_region_held3 (fun w' => w'.cell? ⟨p + 1, 0, none⟩ = some (.pointer (some ⟨p, 0, none⟩)) ∧ w'.cell? ⟨(ad2.add (k * 2)).block, (ad2.add (k * 2)).off + 1, none⟩ = some (.slice A3 x3.length c3)) (first | with_reducible exact ⟨k11a, s11a⟩ | with_reducible exact ⟨k11b, s11b⟩ | with_reducible exact ⟨k12, s12⟩)
        (first | (go_at_call 19; (with_reducible refine hkeep.mono ?_); rintro e w11 ⟨rfl, hK11, hO11⟩; have k12 := hO11.cell (fun h => h.2 rfl) k11b; have s12 := hO11.cell (a := ⟨(ad2.add (k * 2)).block, (ad2.add (k * 2)).off + 1, none⟩) (fun h => by have := h.1; rw [block_of_add] at this; omega) s11b))
      rename_i hHeld
      clear hHeld
      go_wp2_with fail
      refine ⟨⟨k + 1, by omega, by go_num, ?_, ?_⟩, by simp [intOf]; omega⟩
      · exact (hO10.trans (Only.of_below (R := fun _ => False) (below_alloc_drew w10 _)) (fun _ _ h => h.elim)).trans hO11 (fun _ _ h => h)
      · rw [HTK.out]
        exact hK11
    · obtain rfl : k = rs.length := by omega
      have hK0 := hKr.weaken (H' := wr.heap.size) (Z' := fun j => p ≤ j ∧ j ≠ p + 1) (T' := fun j => j < wr.heap.size ∧ ¬ ∃ ad, A1 = some ad ∧ j = ad.block) (Nat.le_refl _) (fun _ h _ => h) (fun j hj h => ⟨h, fun ⟨a1, ha1, e1⟩ => by
        obtain ⟨q, hq, ad, ha, e⟩ := hj
        obtain ⟨_, _, _, _, hof, _⟩ := hR9.each q hq
        have h1 := (hof.lt ad ha).1
        have h2 := hA6 a1 ha1
        omega⟩)
      clear hKr hKK hR9 HPS hs7 hlt hk hA6
      go_upto_block 2 with fail
      go_cut [18, 19, 20, 21, 22, 23, 24] from 90 (fun _ _ _ _ _ _ _ wx => Only (fun j => p ≤ j ∧ j ≠ p + 1) W9 wx ∧ KKP (w.heap.size + 1) p (fun j => p ≤ j ∧ j ≠ p + 1) wx.heap.size (fun j => j < wx.heap.size ∧ ¬ ∃ ad, A1 = some ad ∧ j = ad.block) wx)
      case first =>
        go_wp2_with fail
        go_loopw [18] (fun i wq => ∃ k : Nat, k ≤ nz ∧ k ≤ 10 ∧ i = .int .i64 k ∧ Only (fun j => p ≤ j ∧ j ≠ p + 1) W9 wq ∧ KKP (w.heap.size + 1) p (fun j => p ≤ j ∧ j ≠ p + 1) wq.heap.size (fun j => j < wq.heap.size ∧ ¬ ∃ ad, A1 = some ad ∧ j = ad.block) wq) (fun i _ => 10 - (intOf i).toNat)
        case atStart => exact ⟨0, by omega, by omega, rfl, hO, hK0⟩
        case round =>
          obtain ⟨k, hkn, hk10, rfl, hOq, hKq⟩ := hrel
          clear hO hK0
          have hKq0 : w.heap.size + 1 ≤ wr.heap.size ∧ True := ⟨by have := hKq.lt; omega, trivial⟩
          by_cases hlt : k < nz ∧ k < 10
          · obtain ⟨hl1, hl2⟩ := hlt
            have hk0 : (0 : Int) ≤ (k : Int) := by omega
            have hk1 : (k : Int) < (nz : Int) := by omega
            have hk2 : (k : Int) < 10 := by omega
            obtain ⟨z1, z2, adz, rfl, hcz⟩ := hz.each k (by have := hz.zlen; omega)
            have hzb := World.block_lt_of_cell? w _ hcz
            have cz1 := keep_cell hb09 hcz
            have cz2 := hOq.cell (fun h => by have := h.1; omega) cz1
            have ho1 := hOq.own (fun ad ha h => by have := hA1lt ad ha; have := h.1; omega) ho9
            have hrd1 := rd_pre ho1.rd
            generalize zs[k]'(by have := hz.zlen; omega) = lsn at *
            clear hcz cz1
            have hr1 : Rd wr A (bv b) := by
              by_cases hne : b = []
              · rw [hne]; exact Rd.nil _ _
              · exact hOq.rd (fun ad ha h => by have h1 := h.1; have := hAlt hne ad ha; omega) hr9
            go_wp2_with fail
            refine (find_any b A1 n c1 base seed lsn wr hl (by omega) hrd1 hsd g2).mono ?_
            rw [HS.out]
            obtain ⟨⟨r1, r2, r3, r4⟩, hf⟩ : ∃ r, findL lsn ps = r := ⟨_, rfl⟩
            have HF := Lib.hid hf
            simp only
            have hfd := findL_dat lsn b.length ps HDAT.out
            rw [hf] at hfd ⊢
            clear hf
            rintro e w11 ⟨A4, n4, c4, rfl, ho4, hb11⟩
            have hn4 := ho4.len
            subst hn4
            simp only at *
            have hb12 : Below w11.heap.size w11 (w11.alloc (Obj.cells #[.int .i64 r1, .slice A4 r2.length c4] 34)) := (Below.refl _ _).alloc (Nat.le_refl _) _
            have s12 := heap_alloc_new w11 (Obj.cells #[.int .i64 r1, .slice A4 r2.length c4] 34)
            have hbx12 := hb11.trans (hb12.mono hb11.size)
            have ho12 := ho4.keep hb12
            have cz3 := keep_cell hbx12 cz2
            have hr2 := hr1.keep hbx12
            have hw11 : wr.heap.size ≤ w11.heap.size := hb11.size
            clear hb11 hb12 ho4 cz2 hr1 hrd1
            go_wp2_with fail
            have hz12 : (w11.alloc (Obj.cells #[.int .i64 r1, .slice A4 r2.length c4] 34)).heap.size = w11.heap.size + 1 := by simp
            generalize (w11.alloc (Obj.cells #[.int .i64 r1, .slice A4 r2.length c4] 34)) = w12 at *
            refine (rfind_any b A n c base seed lsn w12 hl (by omega) hc hcm hr2 hsd g2).mono ?_
            rw [HS.out]
            simp only
            rw [HF.out]
            rintro e w13 ⟨A5, n5, c5, rfl, ho5', hb13⟩
            have hn5 := ho5'.len
            subst hn5
            simp only at *
            have hb14 : Below w13.heap.size w13 (w13.alloc (Obj.cells #[.int .i64 r1, .slice A5 r2.length c5] 34)) := (Below.refl _ _).alloc (Nat.le_refl _) _
            have s14 := heap_alloc_new w13 (Obj.cells #[.int .i64 r1, .slice A5 r2.length c5] 34)
            have hb24 := hb13.trans (hb14.mono hb13.size)
            have ho14 := ho12.keep hb24
            have ho15 := ho5'.keep hb14
            have s13 := (hb24.block _ (Array.getElem?_eq_some_iff.1 s12).1).trans s12
            have hw13 : w12.heap.size ≤ w13.heap.size := hb13.size
            have hbr14 := hbx12.trans (hb24.mono hbx12.size)
            clear hb13 hb14 hb24 ho5' ho12 s12 hbx12 hr2 cz3
            have hz14 : (w13.alloc (Obj.cells #[.int .i64 r1, .slice A5 r2.length c5] 34)).heap.size = w13.heap.size + 1 := by simp
            have u0 := (cell_of_row _ _ 0 _ _ _ s13).trans (show _ = some (Value.int .i64 r1) from rfl)
            have u1 := (cell_of_row _ _ 1 _ _ _ s13).trans (show _ = some (Value.slice A4 r2.length c4) from rfl)
            have v0 := (cell_of_row _ _ 0 _ _ _ s14).trans (show _ = some (Value.int .i64 r1) from rfl)
            have v1 := (cell_of_row _ _ 1 _ _ _ s14).trans (show _ = some (Value.slice A5 r2.length c5) from rfl)
            go_wp2_with fail
            generalize (w13.alloc (Obj.cells #[.int .i64 r1, .slice A5 r2.length c5] 34)) = w14 at *
            have heq := eqr_any r1 r1 r2 r2 r2.length r2.length rfl rfl (by omega) A4 A5 c4 c5 w14 ho14.rd ho15.rd
            rw [show recB (r1 : Int) r1 r2 r2 = true from by simp [recB, eqB]] at heq
            refine heq.mono ?_
            rintro e w15 ⟨rfl, hb15⟩
            have hbr15 := thn hbr14 hb15
            have ho4 := ho14.keep hb15
            have u1' := keep_cell hb15 u1
            have hw15 := hb15.size
            clear heq hbr14 ho14 ho15 u0 u1 v0 v1 s13 s14 hb15
            have hO15 : Only (fun j => p ≤ j ∧ j ≠ p + 1) W9 w15 := hOq.trans (Only.of_below (R := fun _ => False) hbr15) (fun _ _ h => h.elim)
            have hK15 := hKq.keep hbr15
            have k15 := cell_of_row _ _ 0 _ _ _ (hO15.row (g := p + 1) (fun h => h.2 rfl) pk1)
            simp at k15
            have hn34 : ((r3 : Int) != (r3 : Int)) = false := by simp
            have hn35 : ((r4 : Int) != (r4 : Int)) = false := by simp
            have hpw : p + 1 < w15.heap.size := World.block_lt_of_cell? _ _ k15
            have hwr : p < wr.heap.size := hKq.lt
            clear hOq hKq ho1
            go_wp2_with fail
            have hb16 : Below w15.heap.size w15 (w15.alloc (Obj.cells #[.slice A4 r2.length c4] 31)) := (Below.refl _ _).alloc (Nat.le_refl _) _
            have hB4 := hKq0.1
            have hkeep := keep1_any (W := (w15.alloc (Obj.cells #[.slice A4 r2.length c4] 31))) (A := A4) (n := r2.length) (c := c4) (g := w15.heap.size) (l := r2) (hK15.keep hb16) (fun j hj => by have h2 := hb16.size; exact ⟨by omega, by omega⟩)
              ((ho4.keep hb16).mono hB4) (by omega) (fun ad ha => ⟨fun h => by have := (ho4.lt ad ha).1; have := h.1; omega, .inr (ho4.lt ad ha).1⟩) (cell_of_row _ _ 0 _ _ _ (heap_alloc_new w15 _)) (.inr (by omega))
            refine hkeep.mono ?_
            rintro e w17 ⟨rfl, hK17, hO17⟩
            clear hkeep
            go_wp2_with fail
            refine ⟨⟨k + 1, by omega, by omega, by go_num, ?_, ?_⟩, by simp [intOf]; omega⟩
            · exact (hO15.trans (Only.of_below (R := fun _ => False) hb16) (fun _ _ h => h.elim)).trans hO17 (fun _ _ h => h)
            · refine hK17.weaken (Nat.le_refl _) (fun _ h _ => h) (fun j hj hl => ⟨hl, fun ⟨a1, ha1, e1⟩ => ?_⟩)
              rcases hj with hj | ⟨ad, ha, e⟩
              · exact hj.2 ⟨a1, ha1, e1⟩
              · have h1 := (ho4.lt ad ha).1
                have h2 := (hA1lt a1 ha1).2
                omega
          · by_cases h1 : k < nz
            · obtain rfl : k = 10 := by omega
              have hd1 : (((10 : Nat) : Int)) < (nz : Int) := by omega
              have hd2 : (10 : Int) < (nz : Int) := by omega
              clear hlt
              go_wp2_with fail
              go_meet
              case rel => exact ⟨hOq, hKq⟩
            · have hd1 : ¬ ((k : Int) < (nz : Int)) := by omega
              have hd2 : decide ((k : Int) < (nz : Int)) = false := by simp; omega
              clear hlt
              go_wp2_with fail
              go_meet
              case rel => exact ⟨hOq, hKq⟩
      case rest =>
        obtain ⟨hOc, hKc⟩ := hcut
        clear hO hK0
        have ho1 := hOc.own (fun ad ha h => by have := hA1lt ad ha; have := h.1; omega) ho9
        have hr1 : Rd wc A (bv b) := by
          by_cases hne : b = []
          · rw [hne]; exact Rd.nil _ _
          · exact hOc.rd (fun ad ha h => by have h1 := h.1; have := hAlt hne ad ha; omega) hr9
        have q1 := hOc.row (fun h => by have := h.1; omega) q9
        have p1 := hOc.row (g := g12 + 1) (fun h => by have := h.1; omega) p9
        have k1 := hOc.row (g := p + 1) (fun h => h.2 rfl) pk1
        have hP1 := hP9.only hOc (fun j _ hj h => by have := h.1; omega)
        have hbc : Below w.heap.size w wc := hb09.trans (hOc.below hb09.size fun j h => by have := h.1; omega)
        have hpw : p + 1 < wc.heap.size := (Array.getElem?_eq_some_iff.1 k1).1
        have hne1 : ∀ ad ad', A1 = some ad → A = some ad' → b ≠ [] → ad.block ≠ ad'.block := fun ad ad' ha ha' hne => by have := hA1lt ad ha; have := hAlt hne ad' ha'; omega
        clear hOc ho9 hr9 q9 p9 pk1 hP9 hAlt hb09
        go_wp2_with fail
        refine (each_any b A1 n c1 base seed wc hl (by omega) (rd_pre ho1.rd)).mono ?_
        rintro e we ⟨p2, A7, c7, rfl, hE⟩
        have hnil : ∀ (f : Fn) (a c : Array Value) (W : World), Sem.run Try.prog (binOp BinOp.eql 68 (Value.func f a c) Value.nilFunc) W = .ok (.bool false) W := fun _ _ _ _ => by kernel_rfl
        have ho2 := ho1.keep hE.bl
        have hr2 := hr1.keep hE.bl
        have q2 := (hE.bl.block _ (Array.getElem?_eq_some_iff.1 q1).1).trans q1
        have p2' := (hE.bl.block _ (Array.getElem?_eq_some_iff.1 p1).1).trans p1
        have k2 := (hE.bl.block _ (Array.getElem?_eq_some_iff.1 k1).1).trans k1
        have hP2 := hP1.keep hE.bl
        have hK2 := hKc.keep hE.bl
        have hbe := hbc.trans (hE.bl.mono hbc.size)
        clear ho1 hr1 q1 p1 k1 hP1 hKc hbc
        go_wp2_with fail
        refine (back_ok b n c1 c hl (by omega) A1 A (w.heap.size + 1) we ho2 hr2 hne1).mono ?_
        rintro e wb ⟨rfl, hgb⟩
        have hOb : Only (fun j => ∃ ad, A1 = some ad ∧ j = ad.block) we wb := Only.of_grown hgb (fun j h => by
          cases hA : A1 with
          | none => rw [hA] at h; cases h
          | some ad => rw [hA] at h; cases h; exact ⟨ad, rfl, rfl⟩)
        go_wp2_with fail
        obtain ⟨wt, hwt⟩ : ∃ wt, wt = wb.alloc (Obj.cells #[.int .i64 0] 3) := ⟨_, rfl⟩
        rw [← hwt]
        have hbt : Below wb.heap.size wb wt := by rw [hwt]; exact (Below.refl _ _).alloc (Nat.le_refl _) _
        have htp : wt.heap[wb.heap.size]? = some (.cells #[.int .i64 0] 3 (0, 0)) := by rw [hwt]; exact heap_alloc_new wb _
        clear hwt
        have hez := hE.bl.size
        have hO3 : Only (fun j => ∃ ad, A1 = some ad ∧ j = ad.block) we wt := hOb.trans (Only.of_below (R := fun _ => False) hbt) (fun _ _ h => h.elim)
        have hnA : ∀ j, p ≤ j → ¬ ∃ ad, A1 = some ad ∧ j = ad.block := fun j hj ⟨ad, ha, e⟩ => by have := hA1lt ad ha; omega
        have hLS : LS w p b0 g12 wc.heap.size we.heap.size D cD ps b n base seed p2 A7 c7 wt := by
          have e1 : wc.heap.size + 2 ≤ p2 := hE.low
          have e2 : p2 < we.heap.size := World.block_lt_of_cell? _ _ hE.co
          refine ⟨hO3.row (fun ⟨ad, ha, e⟩ => by have := hA1lt ad ha; omega) q2, hO3.row (fun ⟨ad, ha, e⟩ => by have := hA2lt ad ha; omega) p2', hO3.row (hnA _ (by omega)) k2, hP2.only hO3 (fun j hj _ ⟨ad, ha, e⟩ => by have := hA2lt ad ha; omega), hO3.cell (hnA _ (by show p ≤ wc.heap.size; omega)) hE.cb, hO3.cell (hnA _ (by show p ≤ wc.heap.size + 1; omega)) hE.cs, hO3.cell (hnA _ (by show p ≤ p2; omega)) hE.co,
            hO3.own (fun ad ha => hnA _ (by have := (hE.own.lt ad ha).1; omega)) hE.own, hbe.trans (hO3.below hbe.size fun j ⟨ad, ha, e⟩ => by have := hA1lt ad ha; omega), by omega, by omega, by omega, ⟨e1, e2⟩, hE.own.lt, hO3.size⟩
        have hK3 : KKP (w.heap.size + 1) p (fun j => ¬ St p wc.heap.size we.heap.size j ∧ j ≠ wb.heap.size ∧ ¬ Mk [] j) wt.heap.size (fun j => j < wt.heap.size) wt := by
          have h1 := (hK2.only hOb (fun j hj _ ⟨ad, ha, e⟩ => by have := hA1lt ad ha; have := hj.1; omega) (fun j hj _ hr => hj.2 hr)).keep hbt
          have hs1 := hOb.size
          have hs2 := hbt.size
          exact h1.weaken (by omega) (fun j hj hl => ⟨by unfold St; have := hj.1; have := hj.2; omega, by omega, fun ⟨_, hm, _⟩ => by cases hm⟩) (fun j _ hl => hl)
        have hgo := hOb.size
        clear hOb hgb hO3 hbe hK2 hP2 k2 p2' q2 hr2 ho2 hbt
        generalize hgw : wc.heap.size = wcs at *
        generalize hgh : we.heap.size = he at *
        clear hE hgw hgh
        refine (wpIn_wide (n := 3)).1 ?_
        refine wpIn_loop (fun a V => ∃ (t g26 : Nat) (ds : List Deferred), t ≤ 2 ∧ LS w p b0 g12 wcs he D cD ps b n base seed p2 A7 c7 V ∧ DefOk ds V ∧ (∀ j, Mk ds j → he ≤ j) ∧ V.heap[g26]? = some (.cells #[.int .i64 t] 3 (0, 0)) ∧ he ≤ g26 ∧ KKP (w.heap.size + 1) p (fun j => ¬ St p wcs he j ∧ j ≠ g26 ∧ ¬ Mk ds j) V.heap.size (fun j => j < V.heap.size) V ∧ ∃ u : Nat → Value, a = { tmps := #[u 0, u 1, u 2, u 3, u 4, u 5, u 6, u 7, u 8, u 9, .pointer (some ⟨w.heap.size, 0, none⟩), u 11, u 12, .pointer (some ⟨g12 + 1, 0, none⟩), u 14, u 15, .pointer (some ⟨p + 1, 0, none⟩), u 17, u 18, u 19, u 20, u 21, u 22, u 23, u 24, .func (.func 52) #[] #[.pointer (some ⟨wcs, 0, none⟩), .pointer (some ⟨p2, 0, none⟩), .pointer (some ⟨wcs + 1, 0, none⟩)], .pointer (some ⟨g26, 0, none⟩), u 27, u 28, u 29, u 30, u 31, u 32, u 33, u 34, u 35, u 36, u 37, u 38, u 39, u 40, u 41, u 42, u 43, u 44, u 45, u 46, u 47, u 48, u 49, u 50, u 51, u 52, u 53, u 54, u 55, u 56, u 57, u 58, u 59, u 60, u 61, u 62, u 63, u 64, u 65, u 66, u 67, u 68, u 69, u 70, u 71, u 72, u 73, u 74, u 75, u 76, u 77, u 78, u 79, u 80, u 81, u 82, u 83, u 84, u 85, u 86, u 87, u 88, u 89, u 90, u 91, u 92, u 93, u 94, u 95, u 96, u 97, u 98, u 99, u 100, u 101, u 102, u 103, u 104, u 105, u 106, u 107, u 108, u 109, u 110, u 111, u 112, u 113, u 114, u 115, u 116, u 117, u 118, u 119, u 120, u 121, u 122, u 123, u 124, u 125, u 126, u 127, u 128, u 129, u 130, u 131, u 132, u 133, u 134, u 135, u 136, u 137, u 138, u 139, u 140, u 141, u 142, u 143, u 144, u 145, u 146, u 147, u 148, u 149, u 150, u 151, u 152, u 153, u 154, u 155, u 156, u 157, u 158, u 159, u 160, u 161, u 162, u 163, u 164, u 165, u 166, u 167, u 168, u 169, u 170, u 171, u 172, u 173, u 174, u 175, u 176, u 177, u 178, u 179, u 180, u 181, u 182, u 183, u 184, u 185, u 186, u 187, u 188, u 189, u 190, u 191, u 192, u 193, u 194, u 195, u 196, u 197, u 198, u 199, u 200, u 201, u 202, u 203, u 204, u 205, u 206, u 207, u 208, u 209, u 210, u 211, u 212], defers := ds })
          (fun a V => mu26 (a.tmps.getD 26 undef) V) ?start ?round
        case start =>
          refine ⟨0, wb.heap.size, [], by omega, hLS, ⟨fun d hd => (by cases hd), List.Pairwise.nil⟩, fun j ⟨_, hm, _⟩ => (by cases hm), htp, by omega, hK3, ?_⟩
          exact lit_wit _ _ _ rfl
        case round =>
          clear hLS hK3 htp hgo
          rintro a V ⟨t, g26, ds, ht2, hL, hDf, hMh, ht, hg26, hKt, u, rfl⟩
          have HMU := Lib.hid (mu26_of ht)
          have ct := cell_of_row _ _ 0 _ _ _ ht
          have ft := frozen_of_row _ _ 0 _ _ ht
          by_cases hlt : t < 2
          · have hbt : decide ((t : Int) < 2) = true := by simp; omega
            have hV27 : (V.alloc (Obj.cells #[.int .i64 0] 3)).heap[V.heap.size]? = some (.cells #[.int .i64 0] 3 (0, 0)) := heap_alloc_new V _
            have hbV : Below V.heap.size V (V.alloc (Obj.cells #[.int .i64 0] 3)) := (Below.refl _ _).alloc (Nat.le_refl _) _
            gi_wp2
            have hzV : (V.alloc (Obj.cells #[.int .i64 0] 3)).heap.size = V.heap.size + 1 := by simp
            have htR := (hbV.block _ (Array.getElem?_eq_some_iff.1 ht).1).trans ht
            have h67 : g26 < V.heap.size := (Array.getElem?_eq_some_iff.1 ht).1
            have hLV := hL.only (Only.of_below (R := fun _ => False) hbV) (fun _ f => f.elim)
            have hDV := hDf.only (Only.of_below (R := fun _ => False) hbV) (fun _ _ f => f)
            have hKV := hKt.keep hbV
            have hmk : ∀ j, Mk ds j → j < V.heap.size := fun j hj => (hDf.lt hj).1
            have hh2 := hL.h2
            have hhp := hL.hp
            clear hL hDf hKt ht ct ft hbV
            generalize (V.alloc (Obj.cells #[.int .i64 0] 3)) = VR at *
            generalize hg27 : V.heap.size = g27 at *
            clear hg27
            have hR0 : LR w p b0 g12 wcs he D cD ps b n base seed p2 A7 c7 ds t g26 g27 VR.heap.size 0 VR := by
              refine ⟨hLV, hDV, htR, hV27, hKV.weaken (by omega) (fun j hj hl => .inl ⟨hj.1, hj.2.1, hj.2.2, by omega, by omega⟩) (fun j hj hl => ⟨.inl hl, hl⟩), hg26, h67, by omega, Nat.le_refl _, hmk⟩
            have hA7 := hLV.own.lt
            have h7L := hLV.h7
            have hsq := each1_all b A7 n c7 base seed wcs p2 (wcs + 1) VR hl (by omega) hLV.own.cap_le hLV.own.rd hsd g2 hLV.cb hLV.co hLV.cs
            rw [HS.out] at hsq
            simp only at hsq
            clear hLV hDV hKV htR hV27 hmk
            generalize hS : VR.heap.size = S at *
            have HSS := Lib.hid hS
            refine wp_rangeP (gf := 52) rfl (enters_of Try.func52 (by kernel_rfl) rfl) hsq (fun _ _ => rfl)
              (fun i V => LR w p b0 g12 wcs he D cD ps b n base seed p2 A7 c7 ds t g26 g27 S i V ∧ (t = 0 → i < 3))
              (fun c i V => c = .exit 6 ∧ t = 0 ∧ i = 3 ∧ LR w p b0 g12 wcs he D cD ps b n base seed p2 A7 c7 ds t g26 g27 S i V) ⟨hR0, fun _ => by omega⟩
              (fun x v W1 a' W2' => W2'.heap[W1.heap.size]? = some (.cells #[.int .i64 x.2.1, v] 34 (0, 0)) ∧ a'.defers = [] ∧ ∃ u : Nat → Value, a'.tmps = #[u 0, u 1, u 2, u 3, u 4, u 5, u 6, u 7, u 8, u 9, .pointer (some ⟨w.heap.size, 0, none⟩), u 11, u 12, .pointer (some ⟨g12 + 1, 0, none⟩), u 14, u 15, .pointer (some ⟨p + 1, 0, none⟩), u 17, u 18, u 19, u 20, u 21, u 22, u 23, u 24, u 25, .pointer (some ⟨g26, 0, none⟩), .pointer (some ⟨g27, 0, none⟩), .int .i64 x.1, .pointer (some ⟨W1.heap.size, 0, none⟩), u 30, u 31, u 32, u 33, u 34, u 35, u 36, u 37, u 38, u 39, u 40, u 41, u 42, u 43, u 44, u 45, u 46, u 47, u 48, u 49, u 50, u 51, u 52, u 53, u 54, u 55, u 56, u 57, u 58, u 59, u 60, u 61, u 62, u 63, u 64, u 65, u 66, u 67, u 68, u 69, u 70, u 71, u 72, u 73, u 74, u 75, u 76, u 77, u 78, u 79, u 80, u 81, u 82, u 83, u 84, u 85, u 86, u 87, u 88, u 89, u 90, u 91, u 92, u 93, u 94, u 95, u 96, u 97, u 98, u 99, u 100, u 101, u 102, u 103, u 104, u 105, u 106, u 107, u 108, u 109, u 110, u 111, u 112, u 113, u 114, u 115, u 116, u 117, u 118, u 119, u 120, u 121, u 122, u 123, u 124, u 125, u 126, u 127, u 128, u 129, u 130, u 131, u 132, u 133, u 134, u 135, u 136, u 137, u 138, u 139, u 140, u 141, u 142, u 143, u 144, u 145, u 146, u 147, u 148, u 149, u 150, u 151, u 152, u 153, u 154, u 155, u 156, u 157, u 158, u 159, u 160, u 161, u 162, u 163, u 164, u 165, u 166, u 167, u 168, u 169, u 170, u 171, u 172, u 173, u 174, u 175, u 176, u 177, u 178, u 179, u 180, u 181, u 182, u 183, u 184, u 185, u 186, u 187, u 188, u 189, u 190, u 191, u 192, u 193, u 194, u 195, u 196, u 197, u 198, u 199, u 200, u 201, u 202, u 203, u 204, u 205, u 206, u 207, u 208, u 209, u 210, u 211, u 212]) ?assign ?body ?kp ?done ?stop
            case assign =>
              intro l x A' m' cc' W1
              simp only [encE]
              gi_wp2
              exact ⟨(Below.refl _ _).alloc (Nat.le_refl _) _, heap_alloc_new _ _, trivial, lit_wit' _ _ rfl⟩
            case body =>
              clear hsq hR0
              rintro l' i A' m cc V0 V1 V2 V3 a' hi ⟨hI, hi3⟩ hle hO hsz ho hlow hb ⟨hx, hd, u', ht⟩ hO3
              obtain ⟨tmps, defers⟩ := a'
              simp only at hd ht
              subst hd
              subst ht
              rw [HSS.out] at hO hO3 hsz hlow hle ⊢
              have hI1 := hI.only hO (fun j hj => hj)
              have hI2 := hI1.keep hb
              have hI3 := hI2.only hO3 (fun j hj => by omega)
              have x3 := hO3.row (g := V1.heap.size) (by omega) hx
              have ho3 : Own V0.heap.size V3 A' m cc (datE ps[i]) := hO3.own (fun ad ha hr => by have := hlow ad ha; omega) (ho.keep hb)
              have hm0 := ho3.len
              subst hm0
              have hAl : ∀ ad, A' = some ad → S + 9 ≤ ad.block := fun ad ha => by have := hlow ad ha; omega
              have hV03 : V0.heap.size ≤ V3.heap.size := by have := hO.size; have := hb.size; have := hO3.size; omega
              have hs3 : S + 9 ≤ V3.heap.size := by have := hO3.size; have := hb.size; omega
              have hKo := ((hI.kk.only hO (fun j hj _ hr => by have h1 := hr.1; have h2 := hr.2; rcases hj with hj | hj <;> omega) (fun j hj _ hr => by have h1 := hr.1; have h2 := hr.2; have := hj.1; omega)).keep hb).only hO3 (fun j hj _ hr => by rcases hj with hj | hj <;> omega) (fun j hj _ hr => by have := hj.1; omega)
              clear hO hb hO3 hI hI1 hI2 hx ho hlow hsz
              have z0 := (cell_of_row _ _ 0 _ _ _ x3).trans (show _ = some (Value.int .i64 ps[i].2.1) from rfl)
              have z1 := (cell_of_row _ _ 1 _ _ _ x3).trans (show _ = some (Value.slice A' (datE ps[i]).length cc) from rfl)
              have e26 := (cell_of_row _ _ 0 _ _ _ hI3.c26).trans (show _ = some (Value.int .i64 t) from rfl)
              have e27 := (cell_of_row _ _ 0 _ _ _ hI3.c27).trans (show _ = some (Value.int .i64 i) from rfl)
              have e13 := (cell_of_row _ _ 0 _ _ _ hI3.ls.c13).trans (show _ = some (Value.slice D ps.length cD) from rfl)
              obtain ⟨ad1, A2, cA2, rfl, p0, p1, p2', hrd2, hcc2, hA2⟩ := hI3.ls.pv.each i hi
              have hdl : ps[i].2.2.length ≤ 131072 := by have := HDAT.out _ (List.getElem_mem hi); omega
              unfold datE at *
              have heq := eqr_any ps[i].2.1 ps[i].2.1 ps[i].2.2 ps[i].2.2 ps[i].2.2.length ps[i].2.2.length rfl rfl (by omega) A' A2 cc cA2 V3.drew ho3.rd hrd2
              rw [show recB (ps[i].2.1 : Int) ps[i].2.1 ps[i].2.2 ps[i].2.2 = true from by simp [recB, eqB]] at heq
              have hge : decide ((ps.length : Int) ≤ (i : Int)) = false := by simp; omega
              have hk0 : (0 : Int) ≤ (i : Int) := by omega
              have hk1 : (i : Int) < (ps.length : Int) := by omega
              generalize ps[i] = x at *
              obtain ⟨x1, x2, x3'⟩ := x
              simp only at *
              have hne0 : ((x1 : Int) != (x1 : Int)) = false := by simp
              have hmix : Try.prog.follows .mixedOrders = true := by kernel_rfl
              gi_wp2
              gi_cut [184] from 162 (fun s wx => s = .bool false ∧ Below V3.heap.size V3 wx)
              case first =>
                rename_i k6 k5 k4 a7 k3 k2 q2 a6 q1 a5 a4 q0 k1 a3 k0 a2 J' K'' aJ aK
                clear a7 a6 a5 a4 a3 a2 hI3 HS HDAT HRL hz hr hl hc hcm g2 hsd hlo hne1 hnil hnA hA1lt hA2lt HMU HSS hA7 h7L hMh hdl hcc2 hA2 ho3 hrd2 hAl x3
                have hS0 : (fun W' => W'.cell? ⟨g27, 0, none⟩ = some (.int .i64 i) ∧ W'.cell? ⟨g12 + 1, 0, none⟩ = some (.slice (some ad1) ps.length cD) ∧ W'.cell? ⟨V1.heap.size, 0, none⟩ = some (.int .i64 x2) ∧ W'.cell? ⟨V1.heap.size, 1, none⟩ = some (.slice A' x3'.length cc) ∧ W'.cell? (ad1.add (i * 3)) = some (.int .i64 x1) ∧ W'.cell? ⟨(ad1.add (i * 3)).block, (ad1.add (i * 3)).off + 1, none⟩ = some (.int .i64 x2) ∧ W'.cell? ⟨(ad1.add (i * 3)).block, (ad1.add (i * 3)).off + 2, none⟩ = some (.slice A2 x3'.length cA2)) V3.drew := ⟨e27, e13, z0, z1, p0, p1, p2'⟩
                refine region_inRound (S := fun W' => W'.cell? ⟨g27, 0, none⟩ = some (.int .i64 i) ∧ W'.cell? ⟨g12 + 1, 0, none⟩ = some (.slice (some ad1) ps.length cD) ∧ W'.cell? ⟨V1.heap.size, 0, none⟩ = some (.int .i64 x2) ∧ W'.cell? ⟨V1.heap.size, 1, none⟩ = some (.slice A' x3'.length cc) ∧ W'.cell? (ad1.add (i * 3)) = some (.int .i64 x1) ∧ W'.cell? ⟨(ad1.add (i * 3)).block, (ad1.add (i * 3)).off + 1, none⟩ = some (.int .i64 x2) ∧ W'.cell? ⟨(ad1.add (i * 3)).block, (ad1.add (i * 3)).off + 2, none⟩ = some (.slice A2 x3'.length cA2)) hmix (by kernel_rfl) (by rintro ⟨_, _, h⟩; exact h) ?_
                refine take_at 0 162 (.int .i64 i) (by kernel_rfl) (by kernel_rfl) (by kernel_rfl) (by kernel_rfl) (fun _ _ _ h => h) (by kernel_rfl) ?_ hS0 ?_
                · rintro o ho W' ⟨s0, s1, s2, s3, s4, s5, s6⟩; obtain rfl := Option.some.inj ho; clear hS0 e26 e27 e13 z0 z1 p0 p1 p2' ho; go_simp
                simp only [Act.put, List.setIfInBounds_toArray, List.set_cons_zero, List.set_cons_succ]
                refine take_at 1 163 (.slice (some ad1) ps.length cD) (by kernel_rfl) (by kernel_rfl) (by kernel_rfl) (by kernel_rfl) (fun _ _ _ h => h) (by kernel_rfl) ?_ hS0 ?_
                · rintro o ho W' ⟨s0, s1, s2, s3, s4, s5, s6⟩; obtain rfl := Option.some.inj ho; clear hS0 e26 e27 e13 z0 z1 p0 p1 p2' ho; go_simp
                simp only [Act.put, List.setIfInBounds_toArray, List.set_cons_zero, List.set_cons_succ]
                refine take_at 2 164 (.int .i64 ps.length) (by kernel_rfl) (by kernel_rfl) (by kernel_rfl) (by kernel_rfl) (fun _ _ _ h => h) (by kernel_rfl) ?_ hS0 ?_
                · rintro o ho W' ⟨s0, s1, s2, s3, s4, s5, s6⟩; obtain rfl := Option.some.inj ho; clear hS0 e26 e27 e13 z0 z1 p0 p1 p2' ho; go_simp
                simp only [Act.put, List.setIfInBounds_toArray, List.set_cons_zero, List.set_cons_succ]
                refine take_at 3 165 (.bool false) (by kernel_rfl) (by kernel_rfl) (by kernel_rfl) (by kernel_rfl) (fun _ _ _ h => h) (by kernel_rfl) ?_ hS0 ?_
                · rintro o ho W' ⟨s0, s1, s2, s3, s4, s5, s6⟩; obtain rfl := Option.some.inj ho; clear hS0 e26 e27 e13 z0 z1 p0 p1 p2' ho; go_simp
                simp only [Act.put, List.setIfInBounds_toArray, List.set_cons_zero, List.set_cons_succ]
                refine take_at 4 166 (.bool false) (by kernel_rfl) (by kernel_rfl) (by kernel_rfl) (by kernel_rfl) (fun _ _ _ h => h) (by kernel_rfl) ?_ hS0 ?_
                · rintro o ho W' ⟨s0, s1, s2, s3, s4, s5, s6⟩; obtain rfl := Option.some.inj ho; clear hS0 e26 e27 e13 z0 z1 p0 p1 p2' ho; go_simp
                simp only [Act.put, List.setIfInBounds_toArray, List.set_cons_zero, List.set_cons_succ]
                refine take_at 5 167 (.int .i64 x1) (by kernel_rfl) (by kernel_rfl) (by kernel_rfl) (by kernel_rfl) (fun _ _ _ h => h) (by kernel_rfl) ?_ hS0 ?_
                · rintro o ho W' ⟨s0, s1, s2, s3, s4, s5, s6⟩; obtain rfl := Option.some.inj ho; clear hS0 e26 e27 e13 z0 z1 p0 p1 p2' ho; go_simp
                simp only [Act.put, List.setIfInBounds_toArray, List.set_cons_zero, List.set_cons_succ]
                refine take_at 6 168 (.slice (some ad1) ps.length cD) (by kernel_rfl) (by kernel_rfl) (by kernel_rfl) (by kernel_rfl) (fun _ _ _ h => h) (by kernel_rfl) ?_ hS0 ?_
                · rintro o ho W' ⟨s0, s1, s2, s3, s4, s5, s6⟩; obtain rfl := Option.some.inj ho; clear hS0 e26 e27 e13 z0 z1 p0 p1 p2' ho; go_simp
                simp only [Act.put, List.setIfInBounds_toArray, List.set_cons_zero, List.set_cons_succ]
                refine take_at 7 169 (.int .i64 i) (by kernel_rfl) (by kernel_rfl) (by kernel_rfl) (by kernel_rfl) (fun _ _ _ h => h) (by kernel_rfl) ?_ hS0 ?_
                · rintro o ho W' ⟨s0, s1, s2, s3, s4, s5, s6⟩; obtain rfl := Option.some.inj ho; clear hS0 e26 e27 e13 z0 z1 p0 p1 p2' ho; go_simp
                simp only [Act.put, List.setIfInBounds_toArray, List.set_cons_zero, List.set_cons_succ]
                refine take_at 8 170 (.pointer (some (ad1.add (i * 3)))) (by kernel_rfl) (by kernel_rfl) (by kernel_rfl) (by kernel_rfl) (fun _ _ _ h => h) (by kernel_rfl) ?_ hS0 ?_
                · rintro o ho W' ⟨s0, s1, s2, s3, s4, s5, s6⟩; obtain rfl := Option.some.inj ho; clear hS0 e26 e27 e13 z0 z1 p0 p1 p2' ho; go_simp
                simp only [Act.put, List.setIfInBounds_toArray, List.set_cons_zero, List.set_cons_succ]
                refine take_at 9 171 (.pointer (some (ad1.add (i * 3)))) (by kernel_rfl) (by kernel_rfl) (by kernel_rfl) (by kernel_rfl) (fun _ _ _ h => h) (by kernel_rfl) ?_ hS0 ?_
                · rintro o ho W' ⟨s0, s1, s2, s3, s4, s5, s6⟩; obtain rfl := Option.some.inj ho; clear hS0 e26 e27 e13 z0 z1 p0 p1 p2' ho; go_simp
                simp only [Act.put, List.setIfInBounds_toArray, List.set_cons_zero, List.set_cons_succ]
                refine take_at 10 172 (.int .i64 x1) (by kernel_rfl) (by kernel_rfl) (by kernel_rfl) (by kernel_rfl) (fun _ _ _ h => h) (by kernel_rfl) ?_ hS0 ?_
                · rintro o ho W' ⟨s0, s1, s2, s3, s4, s5, s6⟩; obtain rfl := Option.some.inj ho; clear hS0 e26 e27 e13 z0 z1 p0 p1 p2' ho; go_simp
                simp only [Act.put, List.setIfInBounds_toArray, List.set_cons_zero, List.set_cons_succ]
                refine take_at 11 173 (.bool false) (by kernel_rfl) (by kernel_rfl) (by kernel_rfl) (by kernel_rfl) (fun _ _ _ h => h) (by kernel_rfl) ?_ hS0 ?_
                · rintro o ho W' ⟨s0, s1, s2, s3, s4, s5, s6⟩; obtain rfl := Option.some.inj ho; clear hS0 e26 e27 e13 z0 z1 p0 p1 p2' ho; go_simp
                simp only [Act.put, List.setIfInBounds_toArray, List.set_cons_zero, List.set_cons_succ]
                refine take_at 12 174 (.bool false) (by kernel_rfl) (by kernel_rfl) (by kernel_rfl) (by kernel_rfl) (fun _ _ _ h => h) (by kernel_rfl) ?_ hS0 ?_
                · rintro o ho W' ⟨s0, s1, s2, s3, s4, s5, s6⟩; obtain rfl := Option.some.inj ho; clear hS0 e26 e27 e13 z0 z1 p0 p1 p2' ho; go_simp
                simp only [Act.put, List.setIfInBounds_toArray, List.set_cons_zero, List.set_cons_succ]
                refine take_at 13 175 (.bool false) (by kernel_rfl) (by kernel_rfl) (by kernel_rfl) (by kernel_rfl) (fun _ _ _ h => h) (by kernel_rfl) ?_ hS0 ?_
                · rintro o ho W' ⟨s0, s1, s2, s3, s4, s5, s6⟩; obtain rfl := Option.some.inj ho; clear hS0 e26 e27 e13 z0 z1 p0 p1 p2' ho; go_simp
                simp only [Act.put, List.setIfInBounds_toArray, List.set_cons_zero, List.set_cons_succ]
                refine take_at 14 176 (.agg #[.int .i64 x2, .slice A' x3'.length cc]) (by kernel_rfl) (by kernel_rfl) (by kernel_rfl) (by kernel_rfl) (fun _ _ _ h => h) (by kernel_rfl) ?_ hS0 ?_
                · rintro o ho W' ⟨s0, s1, s2, s3, s4, s5, s6⟩; obtain rfl := Option.some.inj ho; clear hS0 e26 e27 e13 z0 z1 p0 p1 p2' ho; go_simp
                simp only [Act.put, List.setIfInBounds_toArray, List.set_cons_zero, List.set_cons_succ]
                refine take_at 15 177 (.slice (some ad1) ps.length cD) (by kernel_rfl) (by kernel_rfl) (by kernel_rfl) (by kernel_rfl) (fun _ _ _ h => h) (by kernel_rfl) ?_ hS0 ?_
                · rintro o ho W' ⟨s0, s1, s2, s3, s4, s5, s6⟩; obtain rfl := Option.some.inj ho; clear hS0 e26 e27 e13 z0 z1 p0 p1 p2' ho; go_simp
                simp only [Act.put, List.setIfInBounds_toArray, List.set_cons_zero, List.set_cons_succ]
                refine take_at 16 178 (.int .i64 i) (by kernel_rfl) (by kernel_rfl) (by kernel_rfl) (by kernel_rfl) (fun _ _ _ h => h) (by kernel_rfl) ?_ hS0 ?_
                · rintro o ho W' ⟨s0, s1, s2, s3, s4, s5, s6⟩; obtain rfl := Option.some.inj ho; clear hS0 e26 e27 e13 z0 z1 p0 p1 p2' ho; go_simp
                simp only [Act.put, List.setIfInBounds_toArray, List.set_cons_zero, List.set_cons_succ]
                refine take_at 17 179 (.pointer (some (ad1.add (i * 3)))) (by kernel_rfl) (by kernel_rfl) (by kernel_rfl) (by kernel_rfl) (fun _ _ _ h => h) (by kernel_rfl) ?_ hS0 ?_
                · rintro o ho W' ⟨s0, s1, s2, s3, s4, s5, s6⟩; obtain rfl := Option.some.inj ho; clear hS0 e26 e27 e13 z0 z1 p0 p1 p2' ho; go_simp
                simp only [Act.put, List.setIfInBounds_toArray, List.set_cons_zero, List.set_cons_succ]
                refine take_at 18 180 (.pointer (some ⟨(ad1.add (i * 3)).block, (ad1.add (i * 3)).off + 1, none⟩)) (by kernel_rfl) (by kernel_rfl) (by kernel_rfl) (by kernel_rfl) (fun _ _ _ h => h) (by kernel_rfl) ?_ hS0 ?_
                · rintro o ho W' ⟨s0, s1, s2, s3, s4, s5, s6⟩; obtain rfl := Option.some.inj ho; clear hS0 e26 e27 e13 z0 z1 p0 p1 p2' ho; go_simp
                simp only [Act.put, List.setIfInBounds_toArray, List.set_cons_zero, List.set_cons_succ]
                refine take_at 19 181 (.agg #[.int .i64 x2, .slice A2 x3'.length cA2]) (by kernel_rfl) (by kernel_rfl) (by kernel_rfl) (by kernel_rfl) (fun _ _ _ h => h) (by kernel_rfl) ?_ hS0 ?_
                · rintro o ho W' ⟨s0, s1, s2, s3, s4, s5, s6⟩; obtain rfl := Option.some.inj ho; clear hS0 e26 e27 e13 z0 z1 p0 p1 p2' ho; go_simp
                simp only [Act.put, List.setIfInBounds_toArray, List.set_cons_zero, List.set_cons_succ]
                refine wpAnyH_ready (rs := [20]) (by kernel_rfl) (List.cons_ne_nil _ _) ?_
                refine AllReadyH.cons rfl (fun K hK => ?_) AllReadyH.nil
                rw [if_pos (by kernel_rfl)]
                have hent := fun (args : Array Value) (w : World) => enters_of Try.func23 (by kernel_rfl) rfl args w
                refine wp_call2 (f := 23) (vx := .agg #[.int .i64 x2, .slice A' x3'.length cc]) (vy := .agg #[.int .i64 x2, .slice A2 x3'.length cA2]) (.tmp 176) (.tmp 181) #[34, 34] rfl hent (by kernel_rfl) (by kernel_rfl) heq (fun e w10 hh => ?_)
                obtain ⟨rfl, hb10⟩ := hh
                refine ⟨_, rfl, hK.out _ _ ⟨keep_cell hb10 e27, keep_cell hb10 e13, keep_cell hb10 z0, keep_cell hb10 z1, keep_cell hb10 p0, keep_cell hb10 p1, keep_cell hb10 p2'⟩ (fun hS2 => ?_)⟩
                clear hK
                try simp only [Act.put, List.setIfInBounds_toArray]
                refine take_at 21 183 (.bool false) (by kernel_rfl) (by kernel_rfl) (by kernel_rfl) (by kernel_rfl) (fun _ _ _ h => h) (by kernel_rfl) ?_ hS2 ?_
                · rintro o ho W' _; obtain rfl := Option.some.inj ho; clear ho; go_simp
                simp only [Act.put]
                refine take_at 22 184 (.bool false) (by kernel_rfl) (by kernel_rfl) (by kernel_rfl) (by kernel_rfl) (fun _ _ _ h => h) (by kernel_rfl) ?_ hS2 ?_
                · rintro o ho W' _; obtain rfl := Option.some.inj ho; clear ho; go_simp
                simp only [Act.put]
                refine wpAnyH_done (by kernel_rfl) ?_ _
                refine aK _ _ (Met.intro (aJ _ _ ?_))
                (repeat apply Exists.intro)
                refine ⟨?rel, rfl⟩
                case rel => exact ⟨rfl, (drewN_below V3.heap.size V3 1).trans hb10⟩
              case rest =>
                obtain ⟨rfl, hbx⟩ := hcut
                have hIc := hI3.keep hbx
                have z1c := keep_cell hbx z1
                have k16c := (cell_of_row _ _ 0 _ _ _ hIc.ls.k16).trans (show _ = some (Value.pointer (some ⟨p, 0, none⟩)) from rfl)
                have hoc := ho3.keep hbx
                have hba : Below wc.heap.size wc (wc.alloc (Obj.cells #[.slice A' x3'.length cc] 31)) := (Below.refl _ _).alloc (Nat.le_refl _) _
                have hb3a : Below V3.heap.size V3 (wc.alloc (Obj.cells #[.slice A' x3'.length cc] 31)) := thn hbx hba
                have hsb := hbx.size
                have hsa := hba.size
                have hw0 : w.heap.size + 1 ≤ V0.heap.size := by have := hI3.ls.hw; have := hI3.ls.hp; omega
                have hkeep := keep1_any (W := (wc.alloc (Obj.cells #[.slice A' x3'.length cc] 31))) (A := A') (n := x3'.length) (c := cc) (g := wc.heap.size) (l := x3') (hKo.keep hb3a) (fun j hj => .inr (by omega))
                  ((hoc.keep hba).mono hw0) (by omega) (fun ad ha => ⟨fun h => by have := (ho3.lt ad ha).1; have := h.2; omega, .inr (ho3.lt ad ha).1⟩) (cell_of_row _ _ 0 _ _ _ (heap_alloc_new wc _)) (.inr (by omega))
                have HKE := Lib.hid hkeep
                have HI3 := Lib.hid hI3
                have HB3 := Lib.hid hb3a
                have HAL := Lib.hid hAl
                have hg7 := hI3.h7
                clear hkeep hI3 hIc hKo hoc ho3 hba hbx x3 z0 z1 p0 p1 p2' hrd2 heq e26 e27 e13 hcc2 hA2 hdl
                gi_wp2_with (first
                  | (refine ⟨trivial, ?_⟩; gi_at_call 19; refine (CallsIn.inRound l' (callsIn_wide.2 HKE.out)).mono ?_; rintro e w11 ⟨rfl, hK11, hO11⟩
                     have hst := HI3.out.step HB3.out hO11 HAL.out (hK11.weaken (Nat.le_refl _) (fun _ h _ => h) (fun j hj _ => hj.imp (fun h => ⟨h.1, by have := h.2; omega⟩) id))
                     rw [show ((i + 1 : Nat) : Int) = (i : Int) + 1 from by omega] at hst
                     have r27 := (hO11.row (g := g27) (fun hr => by rcases hr with hr | hr <;> omega) (HI3.out.keep HB3.out).c27)
                     have e27 := (cell_of_row _ _ 0 _ _ _ r27).trans (show _ = some (Value.int .i64 i) from rfl)
                     have f27 := frozen_of_row _ _ 0 _ _ r27
                     have e26s := (cell_of_row _ _ 0 _ _ _ hst.c26).trans (show _ = some (Value.int .i64 t) from rfl)
                     have e27s := (cell_of_row _ _ 0 _ _ _ hst.c27)
                     have HST := Lib.hid hst
                     have HO11 := Lib.hid hO11
                     clear hst r27 hO11 hK11))
                all_goals
                  have hKR : KeepsR (fun j => pr S (2 + 7) j ∨ 0 < n ∧ ∃ ad, A7 = some ad ∧ j = ad.block) V3 (w11.setCell ⟨g27, 0, none⟩ (.int .i64 ((i : Int) + 1))) := by
                    have hset := only_set w11 g27 0 (.int .i64 ((i : Int) + 1))
                    have hz1 := HB3.out.size
                    have hz2 := HO11.out.size
                    refine ⟨Nat.le_trans (Nat.le_trans hz1 hz2) hset.size, fun j hj => ?_⟩
                    have hjn : ¬ Zt p wcs he ds g26 g27 S j ∧ j ≠ g27 ∧ j < V3.heap.size := by
                      rcases hj with hj | ⟨_, ad, ha, rfl⟩
                      · have h1 := hj.1
                        have h2 := hj.2
                        exact ⟨fun hz => by rcases hz with hz | hz <;> omega, by omega, by omega⟩
                      · have h1 := h7L ad ha
                        exact ⟨fun hz => by
                          rcases hz with hz | hz
                          · exact hz.1 (.inr (.inr h1))
                          · omega, by omega, by omega⟩
                    rw [hset.block j (by omega) hjn.2.1, HO11.out.block j (by omega) hjn.1, HB3.out.block j hjn.2.2]
                  first
                    | (rename_i ha hb
                       have hb' : ¬ ((i : Int) + 1 = 3) := by simpa using hb
                       exact ⟨hKR, HST.out, fun _ => by have := hi3 ha; omega⟩)
                    | (rename_i ha hb
                       have hb' : ((i : Int) + 1 = 3) := by simpa using hb
                       exact ⟨hKR, rfl, ha, by omega, HST.out⟩)
                    | (rename_i ha
                       exact ⟨hKR, HST.out, fun h0 => by first | omega | simp_all⟩)
            case kp =>
              rintro j ⟨_, ad, ha, rfl⟩
              have := h7L ad ha
              rw [HSS.out]
              omega
            case done =>
              rintro V0 V9 ⟨hI, _⟩ hle hO hk
              rw [HSS.out] at hO hk hle ⊢
              have hI1 := hI.only hO (fun j hj => hj)
              clear hI hO hle hR0 hsq
              have e26 := (cell_of_row _ _ 0 _ _ _ hI1.c26).trans (show _ = some (Value.int .i64 t) from rfl)
              have e27 := (cell_of_row _ _ 0 _ _ _ hI1.c27).trans (show _ = some (Value.int .i64 ps.length) from rfl)
              have e13 := (cell_of_row _ _ 0 _ _ _ hI1.ls.c13).trans (show _ = some (Value.slice D ps.length cD) from rfl)
              have hnn : ((ps.length : Int) != (ps.length : Int)) = false := by simp
              have HT := Lib.hid (fun (x : Int) (hx : x = ((t + 1 : Nat) : Int)) => hI1.turn hk hx hMh)
              have HC := Lib.hid (fun (x : Int) (hx : x = ((t + 1 : Nat) : Int)) => mu26_of (hI1.turn hk hx hMh).2.2.2.1)
              have h46 := (cell_of_row _ _ 0 _ _ _ (heap_alloc_new V9 (.cells #[.int .i64 t] 3))).trans (show _ = some (Value.int .i64 t) from rfl)
              have f46 := frozen_of_row _ _ 0 _ _ (heap_alloc_new V9 (.cells #[.int .i64 t] 3))
              gi_wp2
              obtain ⟨T1, T2, T3, T4, T5, T6⟩ := HT.out ((t : Int) + 1) (by omega)
              refine ⟨⟨t + 1, V9.heap.size, _, by omega, T1, T2, T3, T4, T5, T6, lit_wit _ _ _ rfl⟩, ?_⟩
              show mu26 (.pointer (some ⟨V9.heap.size, 0, none⟩)) _ < mu26 (.pointer (some ⟨g26, 0, none⟩)) V
              rw [HMU.out, HC.out ((t : Int) + 1) (by omega)]
              omega
            case stop =>
              rintro c' i V0 V9 hi0 hil ⟨rfl, rfl, rfl, hI⟩ hle hO hk
              rw [HSS.out] at hO hk hle ⊢
              have hI1 := hI.only hO (fun j hj => hj)
              clear hI hO hle hR0 hsq
              have e26 := (cell_of_row _ _ 0 _ _ _ hI1.c26).trans (show _ = some (Value.int .i64 0) from rfl)
              have e27 := (cell_of_row _ _ 0 _ _ _ hI1.c27).trans (show _ = some (Value.int .i64 3) from rfl)
              have e13 := (cell_of_row _ _ 0 _ _ _ hI1.ls.c13).trans (show _ = some (Value.slice D ps.length cD) from rfl)
              have HT := Lib.hid (fun (x : Int) (hx : x = ((0 + 1 : Nat) : Int)) => hI1.turn hk hx hMh)
              have HC := Lib.hid (fun (x : Int) (hx : x = ((0 + 1 : Nat) : Int)) => mu26_of (hI1.turn hk hx hMh).2.2.2.1)
              have h46 := (cell_of_row _ _ 0 _ _ _ (heap_alloc_new V9 (.cells #[.int .i64 0] 3))).trans (show _ = some (Value.int .i64 0) from rfl)
              have f46 := frozen_of_row _ _ 0 _ _ (heap_alloc_new V9 (.cells #[.int .i64 0] 3))
              have hkey : Key (∃ q : Bool, ((3 : Int) != (ps.length : Int)) = q) := ⟨⟨_, rfl⟩⟩
              obtain ⟨q, hq⟩ := hkey.out
              cases q
              all_goals
                gi_wp2
                obtain ⟨T1, T2, T3, T4, T5, T6⟩ := HT.out 1 (by omega)
                refine ⟨⟨0 + 1, V9.heap.size, _, by omega, T1, T2, T3, T4, T5, T6, lit_wit _ _ _ rfl⟩, ?_⟩
                show mu26 (.pointer (some ⟨V9.heap.size, 0, none⟩)) _ < mu26 (.pointer (some ⟨g26, 0, none⟩)) V
                rw [HMU.out, HC.out 1 (by omega)]
                omega
          · obtain rfl : t = 2 := by omega
            have k0 := (cell_of_row _ _ 0 _ _ _ hL.k16).trans (show _ = some (Value.pointer (some ⟨p, 0, none⟩)) from rfl)
            gi_wp2
            go_wp2_with fail
            refine (kapart_any hKt).mono ?_
            rintro e wa ⟨rfl, hBD⟩
            have r0a := (hBD.bl.block _ (by omega)).trans hL.r0
            have fra := frozen_of_row _ _ 0 _ _ r0a
            have r0c := cell_of_row _ _ 0 _ _ _ r0a
            go_wp2_with fail
            have hDa : DefOk ds wa := ⟨fun d hd => by
              obtain ⟨DD, e, hD⟩ := hDf.each d hd
              exact ⟨DD, e, hBD.df _ _ hD⟩, hDf.ne⟩
            have hset := only_set wa w.heap.size 0 (.bool true)
            have hmw : ∀ j, Mk ds j → j ≠ w.heap.size := fun j hj e => by
              have h1 := (hDa.lt hj).2
              rw [e, r0a] at h1
              cases h1
            refine leaves_marks ds _ (hDa.only hset (fun j hj e => hmw j hj e)) fun W' hO' => ?_
            have hc : W'.cell? ⟨w.heap.size, 0, none⟩ = some (.bool true) := hO'.cell (fun hm => hmw _ hm rfl) (World.cell?_setCell_same _ _ _ r0c)
            refine ⟨.bool true, results_cellV rfl _ _ w.heap.size rfl (by simp [go_sem, hc]), rfl, ?_⟩
            have hlow : ∀ j, Mk ds j → w.heap.size ≤ j := fun j hj => by have := hMh j hj; have := hL.hp; have := hL.hw; have := hL.h2; omega
            exact ((hL.bl.trans (hBD.bl.mono (by omega))).trans (hset.below (Nat.le_trans hL.bl.size hBD.bl.size) fun j e => by omega)).trans (hO'.below (Nat.le_trans (Nat.le_trans hL.bl.size hBD.bl.size) hset.size) hlow)
end Go.Proofs.Ytdfabjkffjacoaa
