/- Frames read as the document's own answer reads them, what was lent back as it was, and no two answers share memory: for every slices of bytes and seeds, together of bulk at most 1048576. -/
import Derived.Test.YtdfabjkffjacoaaOpen
import Derived.Test.YtdfabjkffjacoaaReadsW
namespace Go.Proofs.Ytdfabjkffjacoaa.frameReads
open Go.ChangeShapes Go.WideShapes Go.ChangeAt Go.RowKit Go.Joins

set_option maxRecDepth 100000 in
theorem contract (H : Type) (enc : TypeId × Value → H) (W : World) (base : Nat) (args : Array Value) (ds gs : List (DataW H)) (before : List MemPlace)
    (hval : ∀ (j : Nat) t v, Try.f4.params[j]? = some t → args[j]? = some v → Value.okWide Try.prog W .any base t v)
    (hW : DataW.Whole enc Try.prog Try.f4.params.toList Rows.frameReadsSpec.vars false W args.toList ds gs before) (hk : Rows.uptoBulkAll (ds ++ gs) ≤ 1048576) :
    Calls Try.prog 4 args W fun e W' => ∃ v, e = .returned v ∧ Rows.frameReadsSpec.post enc Try.prog Try.f4 false true false false W args v W' := by
  have hW' := hW
  obtain ⟨p, q, hA0, hV, rfl, hfz, hnd⟩ := hW
  have hA : DataW.TrodAll enc Try.prog W 0 (fun _ => true) true Try.f4.params.toList args.toList ds p := hA0
  rw [Try.params4] at hA hval
  obtain ⟨v0, vs0, d0, ds0, p0, q0, hargs, rfl, rfl, h0, r0⟩ := trodAll_cons hA
  obtain ⟨v1, vs1, d1, ds1, p1, q1, rfl, rfl, rfl, h1, r1⟩ := trodAll_cons r0
  obtain ⟨rfl, rfl, rfl⟩ := trodAll_nil r1
  obtain rfl : args = #[v0, v1] := by cases args; simp_all
  obtain ⟨rfl, rfl⟩ := trodVars_none hV
  obtain ⟨f0, hf0⟩ := h0
  obtain ⟨A0, n0, k0, rfl⟩ := okWide_slice Try.underlying28 (hval 0 28 v0 rfl rfl)
  obtain ⟨vs, ls, n9, A9, c9, hv0, hD, hc0, hm0, _, hsum⟩ := open_datas hf0
  obtain ⟨rfl, rfl, rfl⟩ : A0 = A9 ∧ n0 = n9 ∧ k0 = c9 := by injection hv0 with e1 e2 e3; exact ⟨e1, e2, e3⟩
  obtain ⟨f1, hf1⟩ := h1
  obtain ⟨A1, n1, k1, rfl⟩ := okWide_slice Try.underlying23 (hval 1 23 v1 rfl rfl)
  obtain ⟨sd, n8, A8, c8, hv1, hS, hc1, hm1⟩ := open_nums (k := .u32) 0 4294967295 Try.underlying23 Try.underlying35 (by kernel_rfl) (fun z hz => by simpa [Lit.wf, IntKind.min, IntKind.max, IntKind.signed, IntKind.bits] using hz) hf1
  obtain ⟨rfl, rfl, rfl⟩ : A1 = A8 ∧ n1 = n8 ∧ k1 = c8 := by injection hv1 with e1 e2 e3; exact ⟨e1, e2, e3⟩
  have hbd : ∀ d ∈ ls, d.length ≤ 1048576 := fun d hd => sum_mem' (List.mem_map_of_mem hd) (Nat.le_trans hsum (by
    simp only [List.append_nil, Rows.uptoBulkAll] at hk
    simp only
    omega))
  refine (reads_any A0 A1 n0 k0 n1 k1 vs ls sd W hD hS (by omega) (by omega) hbd).mono fun e W' ⟨he, hb⟩ => ⟨.bool true, he, ?_⟩
  exact law_post hW' rfl rfl rfl rfl rfl (by decide +kernel) hb

set_option maxRecDepth 100000 in
theorem lifted (os : Os) (started : os.Started) (H : Type) (enc : TypeId × Value → H) (F : Stop.Interp) :
    ReturnsInHanded {} Try.checked os 4 .any ((Rows.OpenSpec.upto Rows.frameReadsSpec).pre6 enc Try.prog Try.f4 Rows.frameReadsUptoRow.domain false) (((Rows.OpenSpec.upto Rows.frameReadsSpec).at F).post enc Try.prog Try.f4 false true false false) := by
  refine returnsInHanded_of_cond (C := Try.checked) (s := Rows.OpenSpec.upto Rows.frameReadsSpec) (k := Rows.uptoSmall) rfl Try.own started (by kernel_rfl) Try.func4
    (OpenSpec.witness (enc := enc) (C := Try.checked) (s := Rows.OpenSpec.upto Rows.frameReadsSpec) (k := Rows.uptoSmall) rfl false ⟨#[], #[.slice none 0 0, .slice none 0 0], []⟩ 8 (by kernel_rfl) (by kernel_rfl) (by kernel_rfl)
      (x := ([.nil, .nil], [], [])) (by kernel_rfl) rfl (by kernel_rfl)) ?_
  intro W base args ds gs before hval hW _ hk _
  refine contract H enc W base args ds gs before hval hW ?_
  have h := of_decide_eq_true hk
  exact h

theorem proved : Rows.FrameReadsUptoSaid :=
  OpenClaim.holds_of_cond 4 Try.f4 rfl rfl rfl rfl rfl rfl rfl ⟨rfl, rfl, rfl, rfl, rfl⟩ rfl rfl rfl rfl rfl (by kernel_rfl) Try.func4 (by kernel_rfl)
    (of_decide_eq_true (by kernel_rfl)) (by unfold Func.isWrapper; first | (rw [if_pos (by decide +kernel)]; kernel_rfl) | (rw [if_neg (by decide +kernel)]; exact ⟨rfl, rfl⟩))
    (fun os started H enc _ F => lifted os started H enc F)
end Go.Proofs.Ytdfabjkffjacoaa.frameReads
namespace Go.Proofs.Ytdfabjkffjacoaa
theorem frameReadsUpto_holds : Rows.FrameReadsUptoSaid := frameReads.proved
end Go.Proofs.Ytdfabjkffjacoaa
#print axioms Go.Proofs.Ytdfabjkffjacoaa.frameReadsUpto_holds
