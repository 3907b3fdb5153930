/- Heads written and read as the document's own answer does: for every heads and every slices of bytes, together of bulk at most 1048576. -/
import Derived.Test.YtdfabjkffjacoaaDatas
import Derived.Test.YtdfabjkffjacoaaHeadsW
namespace Go.Proofs.Ytdfabjkffjacoaa.frameHeads
open Go.ChangeShapes Go.WideShapes Go.ChangeAt Go.RowKit Go.Joins

theorem open_heads {H : Type} {enc : TypeId × Value → H} {w : World} {base : Nat} {spare : Nat → Bool} {held : Bool} {fuel : Nat} {v : Value} {x : DataW H × List MemPlace}
    (h : DataW.trod enc Try.prog w base spare held fuel 47 [v] = some x) :
    ∃ hs n A c, v = .slice A n c ∧ Heads w A n hs ∧ n ≤ c ∧ c ≤ 9223372036854775807 := by
  rcases Deep.open_slice Try.underlying47 h with ⟨hcs, hx⟩ | ⟨a, len, cap, m, k, D, Pl, hcs, _, hl, hm, hmm, hx, hcell⟩
  · cases hcs
    subst hx
    exact ⟨[], 0, none, 0, rfl, ⟨rfl, fun i hi => absurd hi (Nat.not_lt_zero _)⟩, Nat.le_refl _, by omega⟩
  · cases hcs
    subst hx
    have hlm : len ≤ m := by rw [hmm]; split <;> omega
    have hch : ∀ i, i < len → ∃ y : Int × Int × Nat, -9223372036854775808 ≤ y.1 ∧ y.1 < 9223372036854775808 ∧ -9223372036854775808 ≤ y.2.1 ∧ y.2.1 < 9223372036854775808 ∧ y.2.2 < 4294967296 ∧
        w.cell? (a.add (i * 3)) = some (.int .i64 y.1) ∧ w.cell? (a.add (i * 3 + 1)) = some (.int .i64 y.2.1) ∧ w.cell? (a.add (i * 3 + 2)) = some (.int .u32 y.2.2) := fun i hi => by
      obtain ⟨cs', h1, h2⟩ := hcell i (by omega)
      rw [show Try.prog.cellsOf 50 = 3 from by kernel_rfl] at h1
      obtain ⟨_, hlen, hc⟩ := World.cells?_some h1
      match cs', hlen with
      | [v0, v1, v2], _ =>
        obtain ⟨y0, y1, y2, n, _, _, g0, g1, g2⟩ := Deep.trod_struct3 Try.underlying50 h2
        have k64 : Try.prog.cellsOf 2 = 1 := by kernel_rfl
        have k32 : Try.prog.cellsOf 35 = 1 := by kernel_rfl
        simp [k64, k32] at g0 g1 g2
        obtain ⟨nm, e0, _, w0⟩ := DataW.trod_int Try.underlying2 g0
        obtain ⟨bs, e1, _, w1⟩ := DataW.trod_int Try.underlying2 g1
        obtain ⟨sd, e2, _, w2⟩ := DataW.trod_int Try.underlying35 g2
        have b0 : -9223372036854775808 ≤ nm ∧ nm ≤ 9223372036854775807 := by simpa [Lit.wf, IntKind.min, IntKind.max, IntKind.signed, IntKind.bits] using w0
        have b1 : -9223372036854775808 ≤ bs ∧ bs ≤ 9223372036854775807 := by simpa [Lit.wf, IntKind.min, IntKind.max, IntKind.signed, IntKind.bits] using w1
        have b2 : 0 ≤ sd ∧ sd ≤ 4294967295 := by simpa [Lit.wf, IntKind.min, IntKind.max, IntKind.signed, IntKind.bits] using w2
        obtain ⟨seed, rfl⟩ := Int.eq_ofNat_of_zero_le b2.1
        have c0 := hc 0 (by omega)
        have c1 := hc 1 (by omega)
        have c2 := hc 2 (by omega)
        rw [Deep.add_add] at c0 c1 c2
        refine ⟨(nm, bs, seed), b0.1, Int.lt_of_le_of_lt b0.2 (by decide), b1.1, Int.lt_of_le_of_lt b1.2 (by decide), (by show seed < 4294967296; omega), ?_, ?_, ?_⟩
        · rw [show i * 3 = i * 3 + 0 from rfl, c0]; simpa using e0
        · rw [c1]; simpa using e1
        · rw [c2]; simpa using e2
    obtain ⟨f, hf⟩ := Deep.choose_lt hch
    refine ⟨(List.range len).map f, len, some a, cap, rfl, ⟨by simp, ?_⟩, hl, by simp only [maxLen] at hm; omega⟩
    intro i hi
    have hil : i < len := by simpa using hi
    obtain ⟨h1, h2, h3, h4, h5, h6, h7, h8⟩ := hf i hil
    have hg : ((List.range len).map f)[i] = f i := by simp
    rw [hg]
    exact ⟨h1, h2, h3, h4, h5, a, rfl, h6, h7, h8⟩
theorem sum_mem {l : List Nat} {x N : Nat} (hx : x ∈ l) (h : l.sum ≤ N) : x ≤ N := by
  induction l with
  | nil => cases hx
  | cons y l ih =>
    simp only [List.sum_cons] at h
    rcases List.mem_cons.1 hx with rfl | hx
    · omega
    · exact ih hx (by omega)

set_option maxRecDepth 100000 in
theorem contract (H : Type) (enc : TypeId × Value → H) (W : World) (base : Nat) (args : Array Value) (ds gs : List (DataW H)) (before : List MemPlace)
    (hval : ∀ (j : Nat) t v, Try.f6.params[j]? = some t → args[j]? = some v → Value.okWide Try.prog W .any base t v)
    (hW : DataW.Whole enc Try.prog Try.f6.params.toList Rows.frameHeadsSpec.vars false W args.toList ds gs before) (hk : Rows.uptoBulkAll (ds ++ gs) ≤ 1048576) :
    Calls Try.prog 6 args W fun e W' => ∃ v, e = .returned v ∧ Rows.frameHeadsSpec.post enc Try.prog Try.f6 false true false false W args v W' := by
  have hW' := hW
  obtain ⟨p, q, hA0, hV, rfl, hfz, hnd⟩ := hW
  have hA : DataW.TrodAll enc Try.prog W 0 (fun _ => true) true Try.f6.params.toList args.toList ds p := hA0
  rw [Try.params6] at hA hval
  obtain ⟨v0, vs0, d0, ds0, p0, q0, hargs, rfl, rfl, h0, r0⟩ := trodAll_cons hA
  obtain ⟨v1, vs1, d1, ds1, p1, q1, rfl, rfl, rfl, h1, r1⟩ := trodAll_cons r0
  obtain ⟨rfl, rfl, rfl⟩ := trodAll_nil r1
  obtain rfl : args = #[v0, v1] := by cases args; simp_all
  obtain ⟨rfl, rfl⟩ := trodVars_none hV
  obtain ⟨f0, hf0⟩ := h0
  obtain ⟨A0, n0, k0, rfl⟩ := okWide_slice Try.underlying47 (hval 0 47 v0 rfl rfl)
  obtain ⟨hs, n9, A9, c9, hv0, hH, hc0, hm0⟩ := open_heads hf0
  obtain ⟨rfl, rfl, rfl⟩ : A0 = A9 ∧ n0 = n9 ∧ k0 = c9 := by injection hv0 with e1 e2 e3; exact ⟨e1, e2, e3⟩
  obtain ⟨f1, hf1⟩ := h1
  obtain ⟨A', n', c', rfl⟩ := okWide_slice Try.underlying28 (hval 1 28 v1 rfl rfl)
  obtain ⟨vs, ls, n, A, c, hv, hD, hc, hm, _, hsum⟩ := open_datas hf1
  obtain ⟨rfl, rfl, rfl⟩ : A' = A ∧ n' = n ∧ c' = c := by injection hv with e1 e2 e3; exact ⟨e1, e2, e3⟩
  have hbd : ∀ d ∈ ls, d.length ≤ 1048576 := fun d hd => sum_mem (List.mem_map_of_mem hd) (Nat.le_trans hsum (by
    simp only [List.append_nil, Rows.uptoBulkAll] at hk
    simp only
    omega))
  refine (heads_any A0 A' n0 k0 n' c' hs vs ls W hH hD (by omega) (by omega) hbd).mono fun e W' ⟨he, hb⟩ => ⟨.bool true, he, ?_⟩
  exact law_post hW' rfl rfl rfl rfl rfl (by decide +kernel) hb

set_option maxRecDepth 100000 in
theorem lifted (os : Os) (started : os.Started) (H : Type) (enc : TypeId × Value → H) (F : Stop.Interp) :
    ReturnsInHanded {} Try.checked os 6 .any ((Rows.OpenSpec.upto Rows.frameHeadsSpec).pre6 enc Try.prog Try.f6 Rows.frameHeadsUptoRow.domain false) (((Rows.OpenSpec.upto Rows.frameHeadsSpec).at F).post enc Try.prog Try.f6 false true false false) := by
  refine returnsInHanded_of_cond (C := Try.checked) (s := Rows.OpenSpec.upto Rows.frameHeadsSpec) (k := Rows.uptoSmall) rfl Try.own started (by kernel_rfl) Try.func6
    (OpenSpec.witness (enc := enc) (C := Try.checked) (s := Rows.OpenSpec.upto Rows.frameHeadsSpec) (k := Rows.uptoSmall) rfl false ⟨#[], #[.slice none 0 0, .slice none 0 0], []⟩ 8 (by kernel_rfl) (by kernel_rfl) (by kernel_rfl)
      (x := ([.nil, .nil], [], [])) (by kernel_rfl) rfl (by kernel_rfl)) ?_
  intro W base args ds gs before hval hW _ hk _
  refine contract H enc W base args ds gs before hval hW ?_
  have h := of_decide_eq_true hk
  exact h

theorem proved : Rows.FrameHeadsUptoSaid :=
  OpenClaim.holds_of_cond 6 Try.f6 rfl rfl rfl rfl rfl rfl rfl ⟨rfl, rfl, rfl, rfl, rfl⟩ rfl rfl rfl rfl rfl (by kernel_rfl) Try.func6 (by kernel_rfl)
    (of_decide_eq_true (by kernel_rfl)) (by unfold Func.isWrapper; first | (rw [if_pos (by decide +kernel)]; kernel_rfl) | (rw [if_neg (by decide +kernel)]; exact ⟨rfl, rfl⟩))
    (fun os started H enc _ F => lifted os started H enc F)
end Go.Proofs.Ytdfabjkffjacoaa.frameHeads
namespace Go.Proofs.Ytdfabjkffjacoaa
theorem frameHeadsUpto_holds : Rows.FrameHeadsUptoSaid := frameHeads.proved
end Go.Proofs.Ytdfabjkffjacoaa
#print axioms Go.Proofs.Ytdfabjkffjacoaa.frameHeadsUpto_holds
