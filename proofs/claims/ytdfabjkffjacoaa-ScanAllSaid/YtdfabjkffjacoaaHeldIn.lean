/- A region that draws its order, in a round of a range over a function: as outside of one, where it holds no defer statement. -/
import Derived.Test.YtdfabjkffjacoaaSeq
import Derived.OrdersHeld
import Derived.Deep.RegionHeld3
namespace Go.Proofs.Ytdfabjkffjacoaa
open Go.RowKit

section
variable {P : Program} {ops : Array Oper} {Q : Exit → Act → World → Prop} {md : Region.Mode} {l n : Nat}
theorem oper_inRound {o : Oper} (hnd : ∀ c, o.op ≠ .defer c) {a : Act} {w : World} {K : Act → World → Prop} (h : o.wp P a w K Q) : o.wpIn (Fence.wide.inRound l) n P a w K Q := by
  unfold Oper.wpIn
  refine ⟨fun _ _ => trivial, ?_⟩
  rw [Oper.semAt_eq _ _ _ hnd]
  unfold Oper.wp at h
  generalize (execOp a.eval o).run P w = r at *
  cases r with
  | ok x w' =>
    cases x with
    | value v => exact h
    | skip => exact h
    | defer d => exact h
    | enter f args => exact ⟨fun hd => (by cases hd), CallsIn.inRound l (callsIn_wide.2 h)⟩
    | row r args => exact ⟨fun hd => (by cases hd), fun c cs _ => let ⟨v, w2, hR, hs⟩ := h c cs; ⟨v, w2, hR, stepsIn_wide.2 hs⟩⟩
    | _ => exact h.elim
  | halt x w' => cases x <;> exact h
theorem any_inRound (hnd : ∀ (i : Nat) (o : Oper), ops[i]? = some o → ∀ c, o.op ≠ Op.defer c) (hlo : ¬ LetsOut Q) : ∀ (fuel : Nat) (listed : Array Bool) (a : Act) (w : World),
    wpAny P md ops Q fuel listed a w → wpAnyIn (Fence.wide.inRound l) n P md ops Q fuel listed a w
  | 0, _, _, _, h => h
  | fuel + 1, listed, a, w, h => by
    refine ⟨h.1, fun i hi => ?_⟩
    have h2 := wpOp_mono (fun a' w' h' => any_inRound hnd hlo fuel (listed.setIfInBounds i true) a' w' h') (h.2 i hi)
    unfold wpOp at h2
    unfold wpOpIn
    cases ho : ops[i]? with
    | none => rw [ho] at h2; exact h2
    | some o =>
      rw [ho] at h2
      simp only at h2 ⊢
      split
      · rename_i hw
        rw [if_pos hw] at h2
        rcases h2 with h2 | h2
        · exact oper_inRound (hnd i o ho) h2
        · exact absurd h2.2 hlo
      · rename_i hw
        rw [if_neg hw] at h2
        exact ⟨fun _ _ => trivial, h2⟩
def noDefer : List Oper → Bool
  | [] => true
  | o :: os => (match o.op with | .defer _ => false | _ => true) && noDefer os
theorem noDefer_spec : ∀ (os : List Oper), noDefer os = true → ∀ (i : Nat) (o : Oper), os[i]? = some o → ∀ c, o.op ≠ Op.defer c
  | [], _, i, o, h, c => by simp at h
  | x :: os, hn, 0, o, h, c => by
    simp only [List.getElem?_cons_zero, Option.some.injEq] at h
    subst h
    intro e
    simp [noDefer, e] at hn
  | x :: os, hn, i + 1, o, h, c => by
    simp only [noDefer, Bool.and_eq_true] at hn
    exact noDefer_spec os hn.2 i o (by simpa using h) c
theorem region_inRound {S : World → Prop} {id : Nat} {a : Act} {w : World} (hm : P.follows .mixedOrders = true) (hnd : noDefer ops.toList = true) (hlo : ¬ LetsOut Q)
    (h : wpAnyH P .any ops Q S ops.size (Array.replicate ops.size false) a w.drew) : (Code.region id ops true).wpIn (Fence.wide.inRound l) n P Q a w :=
  wpIn_region_any hm (any_inRound (fun i o h c => noDefer_spec _ hnd i o (by rw [Array.getElem?_toList]; exact h) c) hlo _ _ _ _ (wpAny_of_held _ _ _ _ h))
end
theorem take_at {P : Program} {ops : Array Oper} {Q : Exit → Act → World → Prop} {md : Region.Mode} {S : World → Prop} (i d : Nat) (v : Value) {fuel : Nat} {listed : Array Bool} {a : Act} {w : World} (hd : (ops[i]?).map Oper.dst = some (some d))
    (hs : Region.noSelect ops = true) (hf : Region.free md ops listed i = true) (hr : (Region.ready md ops listed).contains i = true)
    (hQ : ∀ c a w, Q (.panic c) (a.put (some d) v) w → Q (.panic c) a w) (hw : (ops[i]?).map (fun o => Region.wanted o (yielded ops a.tmps)) = some true)
    (hy : ∀ o, ops[i]? = some o → ∀ w, S w → (execOp a.eval o).run P w = .ok (.value v) w) (hS : S w)
    (h : wpAnyH P md ops Q S fuel (listed.setIfInBounds i true) (a.put (some d) v) w) : wpAnyH P md ops Q S (fuel + 1) listed a w := by
  cases ho : ops[i]? with
  | none => rw [ho] at hd; cases hd
  | some oi =>
    rw [ho] at hd hw
    simp only [Option.map_some, Option.some.injEq] at hd hw
    refine wpAnyH_take ho hs hf hr (by rw [hd]; exact hQ) (Or.inl ⟨hw, hy oi ho⟩) hS ?_
    rw [hd]
    exact h
theorem wp_call2 {P : Program} {Q : Exit → Act → World → Prop} {o : Oper} {a : Act} {w : World} {K : Act → World → Prop} {f : FuncId} (x y : Operand) (ts : Array TypeId) (ho : o.op = .call { callee := .value (.func f), args := #[x, y], argTypes := ts })
    (he : ∀ args w, (callFunc f args).run P w = .ok (.enter f args) w) {R : Ending → World → Prop} {vx vy : Value} (hx : a.eval x = vx) (hy : a.eval y = vy) (hc : Calls P f #[vx, vy] w R) (hR : ∀ e w', R e w' → ∃ v, e = .returned v ∧ K (a.put o.dst v) w') : Oper.wp P o a w K Q := by
  have hr : (execOp a.eval o).run P w = .ok (.enter f #[vx, vy]) w := by
    unfold execOp
    simp [ho, resolve, invoke, go_sem, he]
    refine ⟨?_, ?_⟩
    · rw [← hx]; cases x <;> simp [Act.eval]
    · rw [← hy]; cases y <;> simp [Act.eval]
  unfold Oper.wp
  rw [hr]
  refine Calls.mono hc fun e w' h => ?_
  obtain ⟨v, rfl, hk⟩ := hR e w' h
  exact hk
end Go.Proofs.Ytdfabjkffjacoaa
