/- Frames written as the document's own answer writes them, sizes alike, and no two answers share memory: for every records, seeds and numbers, together of bulk at most 1048576. -/
import Derived.Test.YtdfabjkffjacoaaOpen
namespace Go.Proofs.Ytdfabjkffjacoaa.frameAll
open Go.ChangeShapes Go.WideShapes Go.ChangeAt Go.RowKit Go.Joins

set_option maxRecDepth 100000 in
theorem contract (H : Type) (enc : TypeId × Value → H) (W : World) (base : Nat) (args : Array Value) (ds gs : List (DataW H)) (before : List MemPlace)
    (hval : ∀ (j : Nat) t v, Try.f3.params[j]? = some t → args[j]? = some v → Value.okWide Try.prog W .any base t v)
    (hW : DataW.Whole enc Try.prog Try.f3.params.toList Rows.frameAllSpec.vars false W args.toList ds gs before) (hk : Rows.uptoBulkAll (ds ++ gs) ≤ 1048576) :
    Calls Try.prog 3 args W fun e W' => ∃ v, e = .returned v ∧ Rows.frameAllSpec.post enc Try.prog Try.f3 false true false false W args v W' := by
  have hW' := hW
  obtain ⟨p, q, hA0, hV, rfl, hfz, hnd⟩ := hW
  have hA : DataW.TrodAll enc Try.prog W 0 (fun _ => true) true Try.f3.params.toList args.toList ds p := hA0
  rw [Try.params3] at hA hval
  obtain ⟨v0, vs0, d0, ds0, p0, q0, hargs, rfl, rfl, h0, r0⟩ := trodAll_cons hA
  obtain ⟨v1, vs1, d1, ds1, p1, q1, rfl, rfl, rfl, h1, r1⟩ := trodAll_cons r0
  obtain ⟨v2, vs2, d2, ds2, p2, q2, rfl, rfl, rfl, h2, r2⟩ := trodAll_cons r1
  obtain ⟨rfl, rfl, rfl⟩ := trodAll_nil r2
  obtain rfl : args = #[v0, v1, v2] := by cases args; simp_all
  obtain ⟨rfl, rfl⟩ := trodVars_none hV
  obtain ⟨f0, hf0⟩ := h0
  obtain ⟨A0, n0, k0, rfl⟩ := okWide_slice Try.underlying22 (hval 0 22 v0 rfl rfl)
  obtain ⟨rs, n9, A9, c9, hv0, hR, hc0, hm0, hbu⟩ := open_recs hf0
  obtain ⟨rfl, rfl, rfl⟩ : A0 = A9 ∧ n0 = n9 ∧ k0 = c9 := by injection hv0 with e1 e2 e3; exact ⟨e1, e2, e3⟩
  obtain ⟨f1, hf1⟩ := h1
  obtain ⟨A1, n1, k1, rfl⟩ := okWide_slice Try.underlying23 (hval 1 23 v1 rfl rfl)
  obtain ⟨sd, n8, A8, c8, hv1, hS, hc1, hm1⟩ := open_nums (k := .u32) 0 4294967295 Try.underlying23 Try.underlying35 (by kernel_rfl) (fun z hz => by simpa [Lit.wf, IntKind.min, IntKind.max, IntKind.signed, IntKind.bits] using hz) hf1
  obtain ⟨rfl, rfl, rfl⟩ : A1 = A8 ∧ n1 = n8 ∧ k1 = c8 := by injection hv1 with e1 e2 e3; exact ⟨e1, e2, e3⟩
  obtain ⟨f2, hf2⟩ := h2
  obtain ⟨A2, n2, k2, rfl⟩ := okWide_slice Try.underlying24 (hval 2 24 v2 rfl rfl)
  obtain ⟨ns, n7, A7, c7, hv2, hZ, hc2, hm2⟩ := open_nums (k := .i64) (-9223372036854775808) 9223372036854775807 Try.underlying24 Try.underlying3 (by kernel_rfl) (fun z hz => by simpa [Lit.wf, IntKind.min, IntKind.max, IntKind.signed, IntKind.bits] using hz) hf2
  obtain ⟨rfl, rfl, rfl⟩ : A2 = A7 ∧ n2 = n7 ∧ k2 = c7 := by injection hv2 with e1 e2 e3; exact ⟨e1, e2, e3⟩
  have hbd : ∀ r ∈ rs, r.2.2.length ≤ 1048576 := fun r hr => Nat.le_trans (hbu r hr) (by
    simp only [List.append_nil, Rows.uptoBulkAll] at hk
    simp only
    omega)
  refine (all_any A0 A1 A2 n0 k0 n1 k1 n2 k2 rs sd ns W hR hS hZ (by omega) (by omega) (by omega) hbd).mono fun e W' ⟨he, hb⟩ => ⟨.bool true, he, ?_⟩
  exact law_post hW' rfl rfl rfl rfl rfl (by decide +kernel) hb

set_option maxRecDepth 100000 in
theorem lifted (os : Os) (started : os.Started) (H : Type) (enc : TypeId × Value → H) (F : Stop.Interp) :
    ReturnsInHanded {} Try.checked os 3 .any ((Rows.OpenSpec.upto Rows.frameAllSpec).pre6 enc Try.prog Try.f3 Rows.frameAllUptoRow.domain false) (((Rows.OpenSpec.upto Rows.frameAllSpec).at F).post enc Try.prog Try.f3 false true false false) := by
  refine returnsInHanded_of_cond (C := Try.checked) (s := Rows.OpenSpec.upto Rows.frameAllSpec) (k := Rows.uptoSmall) rfl Try.own started (by kernel_rfl) Try.func3
    (OpenSpec.witness (enc := enc) (C := Try.checked) (s := Rows.OpenSpec.upto Rows.frameAllSpec) (k := Rows.uptoSmall) rfl false ⟨#[], #[.slice none 0 0, .slice none 0 0, .slice none 0 0], []⟩ 8 (by kernel_rfl) (by kernel_rfl) (by kernel_rfl)
      (x := ([.nil, .nil, .nil], [], [])) (by kernel_rfl) rfl (by kernel_rfl)) ?_
  intro W base args ds gs before hval hW _ hk _
  refine contract H enc W base args ds gs before hval hW ?_
  have h := of_decide_eq_true hk
  exact h

theorem proved : Rows.FrameAllUptoSaid :=
  OpenClaim.holds_of_cond 3 Try.f3 rfl rfl rfl rfl rfl rfl rfl ⟨rfl, rfl, rfl, rfl, rfl⟩ rfl rfl rfl rfl rfl (by kernel_rfl) Try.func3 (by kernel_rfl)
    (of_decide_eq_true (by kernel_rfl)) (by unfold Func.isWrapper; first | (rw [if_pos (by decide +kernel)]; kernel_rfl) | (rw [if_neg (by decide +kernel)]; exact ⟨rfl, rfl⟩))
    (fun os started H enc _ F => lifted os started H enc F)
end Go.Proofs.Ytdfabjkffjacoaa.frameAll
namespace Go.Proofs.Ytdfabjkffjacoaa
theorem frameAllUpto_holds : Rows.FrameAllUptoSaid := frameAll.proved
end Go.Proofs.Ytdfabjkffjacoaa
#print axioms Go.Proofs.Ytdfabjkffjacoaa.frameAllUpto_holds
