/- Any bytes, from any number and seed on: the scan, the records, what is found and what is gone over, twice, are the document's; no two lists of bytes share memory: for every slice of bytes, number, seed, count and list of numbers. -/
import Derived.Test.YtdfabjkffjacoaaSAllA
import Derived.Test.YtdfabjkffjacoaaOpen
import Derived.Test.YtdfabjkffjacoaaRow
namespace Go.Proofs.Ytdfabjkffjacoaa
open Go.RowKit Go.Shelf
set_option maxRecDepth 100000 in
theorem scanall_any (b : List UInt8) (A : Option Addr) (n c : Nat) (base : Int) (seed : Nat) (most : Int) (w : World) (hl : b.length = n) (hc : n ≤ c) (hcm : c ≤ 9223372036854775807) (hr : Rd w A (bv b)) (hsd : seed < 4294967296) (g2 : base ≤ 9223372036854775807)
    (zs : List Int) (Z : Option Addr) (nz cz : Nat) (hz : Nums w .i64 (-9223372036854775808) 9223372036854775807 Z nz zs) :
    Calls Try.prog 8 #[.slice A n c, .int .i64 base, .int .u32 seed, .int .i64 most, .slice Z nz cz] w (EqRP w true) := by
  by_cases hn : n ≤ 131072
  · exact scanall_main b A n c base seed most w hl hn hc hcm hr hsd g2 zs Z nz cz hz
  · have b2 : decide ((131072 : Int) < (n : Int)) = true := by simp; omega
    refine callsIn_wide.1 (callsIn_of_wp_marks (n := 3) Try.func8 rfl trivial ?_ rfl)
    simp only [Try.ntmps8, List.size_toArray, List.length_cons, List.length_nil, Nat.reduceAdd, Nat.reduceSub, Array.replicate_succ, Array.replicate_zero, List.push_toArray, List.append_toArray, List.nil_append, List.cons_append]
    refine wpIn_wide.2 ?_
    have q0 := heap_alloc_new w (Obj.cells #[.bool false] 4)
    have hb0 : Below w.heap.size w (w.alloc (Obj.cells #[.bool false] 4)) := (Below.refl _ _).alloc (Nat.le_refl _) _
    go_wp2_with fail
    generalize (w.alloc (Obj.cells #[.bool false] 4)) = w0 at *
    refine (sbegun_any w0).mono ?_
    rintro e w1 ⟨rfl, hb1⟩
    have hb01 := hb0.trans (hb1.mono hb0.size)
    have q1 := (hb1.block _ (Array.getElem?_eq_some_iff.1 q0).1).trans q0
    have c1 := cell_of_row _ _ 0 _ _ _ q1
    have f1 := frozen_of_row _ _ 0 _ _ q1
    go_wp2_with fail
    refine leaves_marks [] _ ⟨fun d hd => (by cases hd), List.Pairwise.nil⟩ fun W' hO' => ?_
    have hset := only_set w1 w.heap.size 0 (.bool true)
    have hc' : W'.cell? ⟨w.heap.size, 0, none⟩ = some (.bool true) := hO'.cell (fun ⟨_, hm, _⟩ => by cases hm) (World.cell?_setCell_same _ _ _ c1)
    refine ⟨.bool true, results_cellV rfl _ _ w.heap.size rfl (by simp [go_sem, hc']), rfl, ?_⟩
    exact (hb01.trans (hset.below hb01.size fun j e => by omega)).trans (hO'.below (Nat.le_trans hb01.size hset.size) fun j ⟨_, hm, _⟩ => by cases hm)
end Go.Proofs.Ytdfabjkffjacoaa
namespace Go.Proofs.Ytdfabjkffjacoaa.scanAll
open Go.ChangeShapes Go.WideShapes Go.ChangeAt Go.RowKit Go.Joins

set_option maxRecDepth 100000 in
theorem contract (H : Type) (enc : TypeId × Value → H) (W : World) (base : Nat) (args : Array Value) (ds gs : List (DataW H)) (before : List MemPlace)
    (hval : ∀ (j : Nat) t v, Try.f8.params[j]? = some t → args[j]? = some v → Value.okWide Try.prog W .any base t v)
    (hW : DataW.Whole enc Try.prog Try.f8.params.toList Rows.scanAllSpec.vars false W args.toList ds gs before) :
    Calls Try.prog 8 args W fun e W' => ∃ v, e = .returned v ∧ Rows.scanAllSpec.post enc Try.prog Try.f8 false true false false W args v W' := by
  have hW' := hW
  obtain ⟨p, q, hA0, hV, rfl, hfz, hnd⟩ := hW
  have hA : DataW.TrodAll enc Try.prog W 0 (fun _ => true) true Try.f8.params.toList args.toList ds p := hA0
  rw [Try.params8] at hA hval
  obtain ⟨v0, vs0, d0, ds0, p0, q0, hargs, rfl, rfl, h0, r0⟩ := trodAll_cons hA
  obtain ⟨v1, vs1, d1, ds1, p1, q1, rfl, rfl, rfl, h1, r1⟩ := trodAll_cons r0
  obtain ⟨v2, vs2, d2, ds2, p2, q2, rfl, rfl, rfl, h2, r2⟩ := trodAll_cons r1
  obtain ⟨v3, vs3, d3, ds3, p3, q3, rfl, rfl, rfl, h3, r3⟩ := trodAll_cons r2
  obtain ⟨v4, vs4, d4, ds4, p4, q4, rfl, rfl, rfl, h4, r4⟩ := trodAll_cons r3
  obtain ⟨rfl, rfl, rfl⟩ := trodAll_nil r4
  obtain rfl : args = #[v0, v1, v2, v3, v4] := by cases args; simp_all
  obtain ⟨rfl, rfl⟩ := trodVars_none hV
  obtain ⟨f0, hf0⟩ := h0
  obtain ⟨f4, hf4⟩ := h4
  obtain ⟨A', n', c', rfl⟩ := okWide_slice Try.underlying31 (hval 0 31 v0 rfl rfl)
  obtain ⟨l', n2, A2, c2, hB2, _⟩ := open_bytes hf0
  obtain ⟨rfl, rfl, rfl⟩ : A' = A2 ∧ n' = n2 ∧ c' = c2 := by have := hB2.val; injection this with e1 e2 e3; exact ⟨e1, e2, e3⟩
  obtain ⟨bs, rfl, rfl, rfl, wb⟩ := open_int Try.underlying2 (hval 1 2 v1 rfl rfl) h1
  obtain ⟨sd, rfl, rfl, rfl, ws⟩ := open_int Try.underlying35 (hval 2 35 v2 rfl rfl) h2
  obtain ⟨mt, rfl, rfl, rfl, wm⟩ := open_int Try.underlying3 (hval 3 3 v3 rfl rfl) h3
  have bb : -9223372036854775808 ≤ bs ∧ bs ≤ 9223372036854775807 := by simpa [Lit.wf, IntKind.min, IntKind.max, IntKind.signed, IntKind.bits] using wb
  have bd : 0 ≤ sd ∧ sd ≤ 4294967295 := by simpa [Lit.wf, IntKind.min, IntKind.max, IntKind.signed, IntKind.bits] using ws
  obtain ⟨A4, n4, c4, rfl⟩ := okWide_slice Try.underlying55 (hval 4 55 v4 rfl rfl)
  obtain ⟨zs, n7, A7, c7, hv7, hZ, _, _⟩ := open_nums (k := .i64) (-9223372036854775808) 9223372036854775807 Try.underlying55 Try.underlying2 (by kernel_rfl) (fun z hz => by simpa [Lit.wf, IntKind.min, IntKind.max, IntKind.signed, IntKind.bits] using hz) hf4
  obtain ⟨rfl, rfl, rfl⟩ : A4 = A7 ∧ n4 = n7 ∧ c4 = c7 := by injection hv7 with e1 e2 e3; exact ⟨e1, e2, e3⟩
  obtain ⟨seed, rfl⟩ := Int.eq_ofNat_of_zero_le bd.1
  refine (scanall_any l' A' n' c' bs seed mt W hB2.len hB2.cap hB2.max hB2.rd (by omega) bb.2 zs A4 n4 c4 hZ).mono fun e W' ⟨he, hb⟩ => ⟨.bool true, he, ?_⟩
  exact law_post hW' rfl rfl rfl rfl rfl (by decide +kernel) hb

set_option maxRecDepth 100000 in
theorem lifted (os : Os) (started : os.Started) (H : Type) (enc : TypeId × Value → H) :
    ReturnsInHanded {} Try.checked os 8 .any (Rows.scanAllSpec.pre6 enc Try.prog Try.f8 Rows.scanAllRow.domain false) (Rows.scanAllSpec.post enc Try.prog Try.f8 false true false false) := by
  refine returnsInHanded_of_change (C := Try.checked) (s := Rows.scanAllSpec) Try.own started (by kernel_rfl) Try.func8
    (ChangeSpec.witness6 (enc := enc) (C := Try.checked) (s := Rows.scanAllSpec) false ⟨#[], #[.slice none 0 0, .int .i64 0, .int .u32 0, .int .i64 0, .slice none 0 0], []⟩ 8 (by kernel_rfl) (by kernel_rfl) (by kernel_rfl) (by kernel_rfl)) ?_
  intro W base args ds gs before hval hW _ _
  exact contract H enc W base args ds gs before hval hW

theorem proved : Rows.ScanAllSaid :=
  OpenClaim.holds_of_wide 8 Try.f8 rfl rfl rfl rfl rfl rfl rfl ⟨rfl, rfl, rfl, rfl, rfl⟩ rfl rfl rfl rfl rfl (by kernel_rfl) Try.func8 (by kernel_rfl)
    (of_decide_eq_true (by kernel_rfl)) (by unfold Func.isWrapper; first | (rw [if_pos (by decide +kernel)]; kernel_rfl) | (rw [if_neg (by decide +kernel)]; exact ⟨rfl, rfl⟩))
    (fun os started H enc _ => lifted os started H enc)
end Go.Proofs.Ytdfabjkffjacoaa.scanAll
namespace Go.Proofs.Ytdfabjkffjacoaa
theorem scanAll_holds : Rows.ScanAllSaid := scanAll.proved
end Go.Proofs.Ytdfabjkffjacoaa
#print axioms Go.Proofs.Ytdfabjkffjacoaa.scanAll_holds
