/- What a scan told, alone, is told again, and scanned from where it ended nothing more comes: for every slice of bytes, number and seed. -/
import Derived.Test.YtdfabjkffjacoaaAgainW
import Derived.Test.YtdfabjkffjacoaaRow
namespace Go.Proofs.Ytdfabjkffjacoaa.scanAgain
open Go.ChangeShapes Go.WideShapes Go.ChangeAt Go.RowKit Go.Joins

set_option maxRecDepth 100000 in
theorem contract (H : Type) (enc : TypeId × Value → H) (W : World) (base : Nat) (args : Array Value) (ds gs : List (DataW H)) (before : List MemPlace)
    (hval : ∀ (j : Nat) t v, Try.f9.params[j]? = some t → args[j]? = some v → Value.okWide Try.prog W .any base t v)
    (hW : DataW.Whole enc Try.prog Try.f9.params.toList Rows.scanAgainSpec.vars false W args.toList ds gs before) :
    Calls Try.prog 9 args W fun e W' => ∃ v, e = .returned v ∧ Rows.scanAgainSpec.post enc Try.prog Try.f9 false true false false W args v W' := by
  have hW' := hW
  obtain ⟨p, q, hA0, hV, rfl, hfz, hnd⟩ := hW
  have hA : DataW.TrodAll enc Try.prog W 0 (fun _ => true) true Try.f9.params.toList args.toList ds p := hA0
  rw [Try.params9] at hA hval
  obtain ⟨v0, vs0, d0, ds0, p0, q0, hargs, rfl, rfl, h0, r0⟩ := trodAll_cons hA
  obtain ⟨v1, vs1, d1, ds1, p1, q1, rfl, rfl, rfl, h1, r1⟩ := trodAll_cons r0
  obtain ⟨v2, vs2, d2, ds2, p2, q2, rfl, rfl, rfl, h2, r2⟩ := trodAll_cons r1
  obtain ⟨rfl, rfl, rfl⟩ := trodAll_nil r2
  obtain rfl : args = #[v0, v1, v2] := by cases args; simp_all
  obtain ⟨rfl, rfl⟩ := trodVars_none hV
  obtain ⟨f0, hf0⟩ := h0
  obtain ⟨A', n', c', rfl⟩ := okWide_slice Try.underlying31 (hval 0 31 v0 rfl rfl)
  obtain ⟨l', n2, A2, c2, hB2, _⟩ := open_bytes hf0
  obtain ⟨rfl, rfl, rfl⟩ : A' = A2 ∧ n' = n2 ∧ c' = c2 := by have := hB2.val; injection this with e1 e2 e3; exact ⟨e1, e2, e3⟩
  obtain ⟨bs, rfl, rfl, rfl, wb⟩ := open_int Try.underlying2 (hval 1 2 v1 rfl rfl) h1
  obtain ⟨sd, rfl, rfl, rfl, ws⟩ := open_int Try.underlying35 (hval 2 35 v2 rfl rfl) h2
  have bb : -9223372036854775808 ≤ bs ∧ bs ≤ 9223372036854775807 := by simpa [Lit.wf, IntKind.min, IntKind.max, IntKind.signed, IntKind.bits] using wb
  have bd : 0 ≤ sd ∧ sd ≤ 4294967295 := by simpa [Lit.wf, IntKind.min, IntKind.max, IntKind.signed, IntKind.bits] using ws
  obtain ⟨seed, rfl⟩ := Int.eq_ofNat_of_zero_le bd.1
  refine (again_any l' A' n' c' bs seed W hB2.len hB2.cap hB2.max hB2.rd (by omega) bb.2).mono fun e W' ⟨he, hb⟩ => ⟨.bool true, he, ?_⟩
  exact law_post hW' rfl rfl rfl rfl rfl (by decide +kernel) hb

set_option maxRecDepth 100000 in
theorem lifted (os : Os) (started : os.Started) (H : Type) (enc : TypeId × Value → H) :
    ReturnsInHanded {} Try.checked os 9 .any (Rows.scanAgainSpec.pre6 enc Try.prog Try.f9 Rows.scanAgainRow.domain false) (Rows.scanAgainSpec.post enc Try.prog Try.f9 false true false false) := by
  refine returnsInHanded_of_change (C := Try.checked) (s := Rows.scanAgainSpec) Try.own started (by kernel_rfl) Try.func9
    (ChangeSpec.witness6 (enc := enc) (C := Try.checked) (s := Rows.scanAgainSpec) false ⟨#[], #[.slice none 0 0, .int .i64 0, .int .u32 0], []⟩ 8 (by kernel_rfl) (by kernel_rfl) (by kernel_rfl) (by kernel_rfl)) ?_
  intro W base args ds gs before hval hW _ _
  exact contract H enc W base args ds gs before hval hW

theorem proved : Rows.ScanAgainSaid :=
  OpenClaim.holds_of_wide 9 Try.f9 rfl rfl rfl rfl rfl rfl rfl ⟨rfl, rfl, rfl, rfl, rfl⟩ rfl rfl rfl rfl rfl (by kernel_rfl) Try.func9 (by kernel_rfl)
    (of_decide_eq_true (by kernel_rfl)) (by unfold Func.isWrapper; first | (rw [if_pos (by decide +kernel)]; kernel_rfl) | (rw [if_neg (by decide +kernel)]; exact ⟨rfl, rfl⟩))
    (fun os started H enc _ => lifted os started H enc)
end Go.Proofs.Ytdfabjkffjacoaa.scanAgain
namespace Go.Proofs.Ytdfabjkffjacoaa
theorem scanAgain_holds : Rows.ScanAgainSaid := scanAgain.proved
end Go.Proofs.Ytdfabjkffjacoaa
#print axioms Go.Proofs.Ytdfabjkffjacoaa.scanAgain_holds
