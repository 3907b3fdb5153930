/- All of the frames that were written one behind the other are told, whatever stands behind them, and as many as stand in a cut of them: for every data, number, seed, bytes behind and cut, together of bulk at most 1048576. -/
import Derived.Test.YtdfabjkffjacoaaFrontW
import Derived.Test.YtdfabjkffjacoaaDatas
namespace Go.Proofs.Ytdfabjkffjacoaa.scanFront
open Go.ChangeShapes Go.WideShapes Go.ChangeAt Go.RowKit Go.Joins

set_option maxRecDepth 100000 in
theorem contract (H : Type) (enc : TypeId × Value → H) (W : World) (base : Nat) (args : Array Value) (ds gs : List (DataW H)) (before : List MemPlace)
    (hval : ∀ (j : Nat) t v, Try.f10.params[j]? = some t → args[j]? = some v → Value.okWide Try.prog W .any base t v)
    (hW : DataW.Whole enc Try.prog Try.f10.params.toList Rows.scanFrontSpec.vars false W args.toList ds gs before) (hk : Rows.uptoBulkAll (ds ++ gs) ≤ 1048576) :
    Calls Try.prog 10 args W fun e W' => ∃ v, e = .returned v ∧ Rows.scanFrontSpec.post enc Try.prog Try.f10 false true false false W args v W' := by
  have hW' := hW
  obtain ⟨p, q, hA0, hV, rfl, hfz, hnd⟩ := hW
  have hA : DataW.TrodAll enc Try.prog W 0 (fun _ => true) true Try.f10.params.toList args.toList ds p := hA0
  rw [Try.params10] at hA hval
  obtain ⟨v0, vs0, d0, ds0, p0, q0, hargs, rfl, rfl, h0, r0⟩ := trodAll_cons hA
  obtain ⟨v1, vs1, d1, ds1, p1, q1, rfl, rfl, rfl, h1, r1⟩ := trodAll_cons r0
  obtain ⟨v2, vs2, d2, ds2, p2, q2, rfl, rfl, rfl, h2, r2⟩ := trodAll_cons r1
  obtain ⟨v3, vs3, d3, ds3, p3, q3, rfl, rfl, rfl, h3, r3⟩ := trodAll_cons r2
  obtain ⟨v4, vs4, d4, ds4, p4, q4, rfl, rfl, rfl, h4, r4⟩ := trodAll_cons r3
  obtain ⟨rfl, rfl, rfl⟩ := trodAll_nil r4
  obtain rfl : args = #[v0, v1, v2, v3, v4] := by cases args; simp_all
  obtain ⟨rfl, rfl⟩ := trodVars_none hV
  obtain ⟨f0, hf0⟩ := h0
  obtain ⟨A0, n0, k0, rfl⟩ := okWide_slice Try.underlying28 (hval 0 28 v0 rfl rfl)
  obtain ⟨vs, ls, n9, A9, c9, hv0, hD, hc0, hm0, _, hsum⟩ := open_datas hf0
  obtain ⟨rfl, rfl, rfl⟩ : A0 = A9 ∧ n0 = n9 ∧ k0 = c9 := by injection hv0 with e1 e2 e3; exact ⟨e1, e2, e3⟩
  obtain ⟨bs, rfl, rfl, rfl, wb⟩ := open_int Try.underlying2 (hval 1 2 v1 rfl rfl) h1
  obtain ⟨sd, rfl, rfl, rfl, ws⟩ := open_int Try.underlying35 (hval 2 35 v2 rfl rfl) h2
  obtain ⟨f3, hf3⟩ := h3
  obtain ⟨A', n', c', rfl⟩ := okWide_slice Try.underlying31 (hval 3 31 v3 rfl rfl)
  obtain ⟨l', n2, A2, c2, hB2, _⟩ := open_bytes hf3
  obtain ⟨rfl, rfl, rfl⟩ : A' = A2 ∧ n' = n2 ∧ c' = c2 := by have := hB2.val; injection this with e1 e2 e3; exact ⟨e1, e2, e3⟩
  obtain ⟨ct, rfl, rfl, rfl, wc⟩ := open_int Try.underlying3 (hval 4 3 v4 rfl rfl) h4
  have bb : -9223372036854775808 ≤ bs ∧ bs ≤ 9223372036854775807 := by simpa [Lit.wf, IntKind.min, IntKind.max, IntKind.signed, IntKind.bits] using wb
  have bc : -9223372036854775808 ≤ ct ∧ ct ≤ 9223372036854775807 := by simpa [Lit.wf, IntKind.min, IntKind.max, IntKind.signed, IntKind.bits] using wc
  have bd : 0 ≤ sd ∧ sd ≤ 4294967295 := by simpa [Lit.wf, IntKind.min, IntKind.max, IntKind.signed, IntKind.bits] using ws
  obtain ⟨seed, rfl⟩ := Int.eq_ofNat_of_zero_le bd.1
  have hcp := hB2.cap
  have hmx := hB2.max
  refine (front_any A0 n0 k0 vs ls bs seed l' A' n' c' ct W hD bb.1 bb.2 (by omega) (by omega) (by omega) hB2.len hB2.cap hB2.rd bc.1 bc.2).mono fun e W' ⟨he, hb⟩ => ⟨.bool true, he, ?_⟩
  exact law_post hW' rfl rfl rfl rfl rfl (by decide +kernel) hb

set_option maxRecDepth 100000 in
theorem lifted (os : Os) (started : os.Started) (H : Type) (enc : TypeId × Value → H) (F : Stop.Interp) :
    ReturnsInHanded {} Try.checked os 10 .any ((Rows.OpenSpec.upto Rows.scanFrontSpec).pre6 enc Try.prog Try.f10 Rows.scanFrontUptoRow.domain false) (((Rows.OpenSpec.upto Rows.scanFrontSpec).at F).post enc Try.prog Try.f10 false true false false) := by
  refine returnsInHanded_of_cond (C := Try.checked) (s := Rows.OpenSpec.upto Rows.scanFrontSpec) (k := Rows.uptoSmall) rfl Try.own started (by kernel_rfl) Try.func10
    (OpenSpec.witness (enc := enc) (C := Try.checked) (s := Rows.OpenSpec.upto Rows.scanFrontSpec) (k := Rows.uptoSmall) rfl false ⟨#[], #[.slice none 0 0, .int .i64 0, .int .u32 0, .slice none 0 0, .int .i64 0], []⟩ 8 (by kernel_rfl) (by kernel_rfl) (by kernel_rfl)
      (x := ([.nil, .lit (.int .i64 0), .lit (.int .u32 0), .nil, .lit (.int .i64 0)], [], [])) (by kernel_rfl) rfl (by kernel_rfl)) ?_
  intro W base args ds gs before hval hW _ hk _
  refine contract H enc W base args ds gs before hval hW ?_
  have h := of_decide_eq_true hk
  exact h

theorem proved : Rows.ScanFrontUptoSaid :=
  OpenClaim.holds_of_cond 10 Try.f10 rfl rfl rfl rfl rfl rfl rfl ⟨rfl, rfl, rfl, rfl, rfl⟩ rfl rfl rfl rfl rfl (by kernel_rfl) Try.func10 (by kernel_rfl)
    (of_decide_eq_true (by kernel_rfl)) (by unfold Func.isWrapper; first | (rw [if_pos (by decide +kernel)]; kernel_rfl) | (rw [if_neg (by decide +kernel)]; exact ⟨rfl, rfl⟩))
    (fun os started H enc _ F => lifted os started H enc F)
end Go.Proofs.Ytdfabjkffjacoaa.scanFront
namespace Go.Proofs.Ytdfabjkffjacoaa
theorem scanFrontUpto_holds : Rows.ScanFrontUptoSaid := scanFront.proved
end Go.Proofs.Ytdfabjkffjacoaa
#print axioms Go.Proofs.Ytdfabjkffjacoaa.scanFrontUpto_holds
