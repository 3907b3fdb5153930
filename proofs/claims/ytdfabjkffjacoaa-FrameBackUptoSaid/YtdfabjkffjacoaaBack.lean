/- A frame that was written reads back, and what is read, written, is what was read: for every record, seed and bytes behind, together of bulk at most 1048576. -/
import Derived.Test.YtdfabjkffjacoaaBackW
import Derived.Test.YtdfabjkffjacoaaRow
namespace Go.Proofs.Ytdfabjkffjacoaa.frameBack
open Go.ChangeShapes Go.WideShapes Go.ChangeAt Go.RowKit Go.Joins

set_option maxRecDepth 100000 in
theorem contract (H : Type) (enc : TypeId × Value → H) (W : World) (base : Nat) (args : Array Value) (ds gs : List (DataW H)) (before : List MemPlace)
    (hval : ∀ (j : Nat) t v, Try.f5.params[j]? = some t → args[j]? = some v → Value.okWide Try.prog W .any base t v)
    (hW : DataW.Whole enc Try.prog Try.f5.params.toList Rows.frameBackSpec.vars false W args.toList ds gs before) (hk : Rows.uptoBulkAll (ds ++ gs) ≤ 1048576) :
    Calls Try.prog 5 args W fun e W' => ∃ v, e = .returned v ∧ Rows.frameBackSpec.post enc Try.prog Try.f5 false true false false W args v W' := by
  have hW' := hW
  obtain ⟨p, q, hA0, hV, rfl, hfz, hnd⟩ := hW
  have hA : DataW.TrodAll enc Try.prog W 0 (fun _ => true) true Try.f5.params.toList args.toList ds p := hA0
  rw [Try.params5] at hA hval
  obtain ⟨v0, vs0, d0, ds0, p0, q0, hargs, rfl, rfl, h0, r0⟩ := trodAll_cons hA
  obtain ⟨v1, vs1, d1, ds1, p1, q1, rfl, rfl, rfl, h1, r1⟩ := trodAll_cons r0
  obtain ⟨v2, vs2, d2, ds2, p2, q2, rfl, rfl, rfl, h2, r2⟩ := trodAll_cons r1
  obtain ⟨rfl, rfl, rfl⟩ := trodAll_nil r2
  obtain rfl : args = #[v0, v1, v2] := by cases args; simp_all
  obtain ⟨rfl, rfl⟩ := trodVars_none hV
  obtain ⟨c0, c1, y0, y1, m, rfl, rfl, rfl, hy0, hy1⟩ := open_agg2 Try.underlying34 (by kernel_rfl) (by kernel_rfl) (hval 0 34 v0 rfl rfl) h0
  obtain ⟨sd, rfl, rfl, rfl, ws⟩ := open_int Try.underlying35 (hval 1 35 v1 rfl rfl) h1
  obtain ⟨f2, hf2⟩ := h2
  obtain ⟨A', n', c', rfl⟩ := okWide_slice Try.underlying31 (hval 2 31 v2 rfl rfl)
  obtain ⟨l', n2, A2, c2, hB2, hb2⟩ := open_bytes hf2
  obtain ⟨l, n, A, c, hB1, _⟩ := open_bytes hy1
  obtain ⟨lsn, e0, rfl, wl⟩ := DataW.trod_int Try.underlying2 hy0
  obtain rfl : c0 = .int .i64 lsn := by simpa using e0
  obtain rfl := hB1.val
  obtain ⟨rfl, rfl, rfl⟩ : A' = A2 ∧ n' = n2 ∧ c' = c2 := by have := hB2.val; injection this with e1 e2 e3; exact ⟨e1, e2, e3⟩
  have bl : -9223372036854775808 ≤ lsn ∧ lsn ≤ 9223372036854775807 := by simpa [Lit.wf, IntKind.min, IntKind.max, IntKind.signed, IntKind.bits] using wl
  have bs : 0 ≤ sd ∧ sd ≤ 4294967295 := by simpa [Lit.wf, IntKind.min, IntKind.max, IntKind.signed, IntKind.bits] using ws
  obtain ⟨seed, rfl⟩ := Int.eq_ofNat_of_zero_le bs.1
  have hn' : n' ≤ 1048576 := by
    simp only [List.append_nil, Rows.uptoBulkAll, Rows.uptoBulk] at hk hb2
    split at hb2 <;> omega
  have hc1 := hB1.cap
  have hm1 := hB1.max
  refine (back_any lsn seed l l' n c n' c' A A' W hB1.rd hB2.rd hB1.len hB2.len (by omega) (by omega) hB2.cap bl.1 bl.2 (by omega)).mono fun e W' ⟨he, hb⟩ => ⟨.bool true, he, ?_⟩
  exact law_post hW' rfl rfl rfl rfl rfl (by decide +kernel) hb

set_option maxRecDepth 100000 in
theorem lifted (os : Os) (started : os.Started) (H : Type) (enc : TypeId × Value → H) (F : Stop.Interp) :
    ReturnsInHanded {} Try.checked os 5 .any ((Rows.OpenSpec.upto Rows.frameBackSpec).pre6 enc Try.prog Try.f5 Rows.frameBackUptoRow.domain false) (((Rows.OpenSpec.upto Rows.frameBackSpec).at F).post enc Try.prog Try.f5 false true false false) := by
  refine returnsInHanded_of_cond (C := Try.checked) (s := Rows.OpenSpec.upto Rows.frameBackSpec) (k := Rows.uptoSmall) rfl Try.own started (by kernel_rfl) Try.func5
    (OpenSpec.witness (enc := enc) (C := Try.checked) (s := Rows.OpenSpec.upto Rows.frameBackSpec) (k := Rows.uptoSmall) rfl false ⟨#[], #[.agg #[.int .i64 0, .slice none 0 0], .int .u32 0, .slice none 0 0], []⟩ 8 (by kernel_rfl) (by kernel_rfl) (by kernel_rfl)
      (x := ([.agg [.lit (.int .i64 0), .nil], .lit (.int .u32 0), .nil], [], [])) (by kernel_rfl) rfl (by kernel_rfl)) ?_
  intro W base args ds gs before hval hW _ hk _
  refine contract H enc W base args ds gs before hval hW ?_
  have h := of_decide_eq_true hk
  exact h

theorem proved : Rows.FrameBackUptoSaid :=
  OpenClaim.holds_of_cond 5 Try.f5 rfl rfl rfl rfl rfl rfl rfl ⟨rfl, rfl, rfl, rfl, rfl⟩ rfl rfl rfl rfl rfl (by kernel_rfl) Try.func5 (by kernel_rfl)
    (of_decide_eq_true (by kernel_rfl)) (by unfold Func.isWrapper; first | (rw [if_pos (by decide +kernel)]; kernel_rfl) | (rw [if_neg (by decide +kernel)]; exact ⟨rfl, rfl⟩))
    (fun os started H enc _ F => lifted os started H enc F)
end Go.Proofs.Ytdfabjkffjacoaa.frameBack
namespace Go.Proofs.Ytdfabjkffjacoaa
theorem frameBackUpto_holds : Rows.FrameBackUptoSaid := frameBack.proved
end Go.Proofs.Ytdfabjkffjacoaa
#print axioms Go.Proofs.Ytdfabjkffjacoaa.frameBackUpto_holds
