/- A range over a function whose iterator keeps cells of its own and makes the bytes that it hands out: its contract, and the law for the caller. -/
import Derived.RangeFuncNested
import Derived.RangeFuncBound
import Derived.RangeFuncCalls
import Derived.RangeFuncLeaves
import Derived.OwnWalkIn
import Derived.TacticsInMore
import Derived.LoopNIn
import Derived.LoopIn
import Derived.Test.YtdfabjkffjacoaaKeep
namespace Go.Proofs.Ytdfabjkffjacoaa
open Go.RowKit

/-- the private blocks: from b on, so many -/
def pr (b c : Nat) : Nat → Prop := fun j => b ≤ j ∧ j < b + c
/-- what a round keeps -/
structure KeepsR (R : Nat → Prop) (W W' : World) : Prop where
  size : W.heap.size ≤ W'.heap.size
  same : ∀ j, R j → W'.heap[j]? = W.heap[j]?

/-- the iterator's contract: items xs, their values, the bytes of each; so many private blocks; what it reads of its captures' blocks -/
def SeqP {α : Type} (P : Program) (g : Nat) (lb : Array Value) (enc : α → Value → Array Value) (dat : α → List UInt8) (c : Nat) (Kp : Nat → Prop) (xs : List α) (w : World) : Prop :=
  ∀ (l : Nat) (J Jx : Nat → World → Prop) (W : World), Below w.heap.size w W →
    (∀ i W0 W1 A m cc (hi : i < xs.length), J i W0 → Only (pr W.heap.size c) W0 W1 → W.heap.size + c ≤ W1.heap.size → W.heap.size ≤ W0.heap.size → Own W0.heap.size W1 A m cc (dat xs[i]) → (∀ ad, A = some ad → W.heap.size + c ≤ ad.block) →
      YieldAt Fence.wide 3 P l (enc xs[i] (.slice A m cc)) W1 fun e W' =>
        (e = .returned (.bool true) ∧ J (i + 1) W' ∧ KeepsR (fun j => pr W.heap.size c j ∨ Kp j) W1 W') ∨ (e = .returned (.bool false) ∧ Jx (i + 1) W' ∧ KeepsR (fun j => pr W.heap.size c j ∨ Kp j) W1 W')) →
    J 0 W →
    Calls P g (#[.func (.yield l) #[] #[]] ++ lb) W fun e W' => (∃ v, e = .returned v) ∧ ∃ W0, Only (pr W.heap.size c) W0 W' ∧ (J xs.length W0 ∨ ∃ i, 0 < i ∧ i ≤ xs.length ∧ Jx i W0)

theorem roundIn_wide {l l' m m' : Nat} {P : Program} {f : FuncId} {tmps : Array Value} {assign body : Code} {w : World} {R : Ending → World → Prop} (h : RoundIn Fence.wide m P l f tmps assign body w R) :
    RoundIn (Fence.wide.inRound l') m' P l f tmps assign body w R := ⟨trivial, fun c cs _ => h.2 c cs (room_wide _)⟩
theorem roundIn_wide' {l l' m m' : Nat} {P : Program} {f : FuncId} {tmps : Array Value} {assign body : Code} {w : World} {R : Ending → World → Prop} (h : RoundIn (Fence.wide.inRound l') m P l f tmps assign body w R) :
    RoundIn Fence.wide m' P l f tmps assign body w R := ⟨trivial, fun c cs _ => h.2 c cs (room_wide _)⟩

def bodyPostP (R : Nat → Prop) (I : World → Prop) (Ix : Code → World → Prop) (W : World) : Exit → Act → World → Prop
  | .normal, _, W' => KeepsR R W W' ∧ I W'
  | .ret, _, W' => KeepsR R W W' ∧ Ix .ret W'
  | .exit id, _, W' => KeepsR R W W' ∧ Ix (.exit id) W'
  | .goto t, _, W' => KeepsR R W W' ∧ Ix (.goto t) W'
  | .panic _, _, _ => False
  | .outgrown, _, _ => False

theorem only_putObj (W : World) (l : Nat) (o : Obj) : Only (fun j => j = l) W (W.putObj l o) :=
  ⟨rfl, rfl, rfl, by simp, fun _ _ hn => World.putObj_heap_other hn⟩
theorem only_le {R R' : Nat → Prop} {w w1 : World} (h : Only R w w1) (hR : ∀ j, j < w.heap.size → R j → R' j) : Only R' w w1 :=
  ⟨h.os, h.tape, h.output, h.size, fun j hj hn => h.block j hj (fun hr => hn (hR j hj hr))⟩

/-- the statement, over such an iterator -/
theorem wp_rangeP {α : Type} {P : Program} {g : Operand} {ps : Array Tmp} {assign body : Code} {Q : Exit → Act → World → Prop} {a : Act} {w : World} {gf : Nat} {lb : Array Value}
    (hg : a.eval g = .func (.func gf) #[] lb) (eg : ∀ args w, (callFunc gf args).run P w = .ok (.enter gf args) w)
    {enc : α → Value → Array Value} {dat : α → List UInt8} {c : Nat} {Kp : Nat → Prop} {xs : List α} (hseq : SeqP P gf lb enc dat c Kp xs w) (hps : ∀ x v, (enc x v).size = ps.size)
    (I : Nat → World → Prop) (Ix : Code → Nat → World → Prop) (h0 : I 0 w) (Ax : α → Value → World → Act → World → Prop)
    (hassign : ∀ (l : Nat) (x : α) (A : Option Addr) (m cc : Nat) (W1 : World), assign.wpIn (Fence.wide.inRound l) 3 P (Exit.then (fun a' W2 => Below W1.heap.size W1 W2 ∧ Ax x (.slice A m cc) W1 a' W2) (fun _ _ _ => False))
        { tmps := (ps.zip (enc x (.slice A m cc))).foldl (fun t (p, v) => t.setIfInBounds p v) a.tmps, defers := [] } W1)
    (hbody : ∀ (l i : Nat) (A : Option Addr) (m cc : Nat) (W0 W1 W2 W3 : World) (a' : Act) (hi : i < xs.length), I i W0 → w.heap.size ≤ W0.heap.size → Only (pr w.heap.size (2 + c)) W0 W1 → w.heap.size + (2 + c) ≤ W1.heap.size →
        Own W0.heap.size W1 A m cc (dat xs[i]) → (∀ ad, A = some ad → w.heap.size + (2 + c) ≤ ad.block) → Below W1.heap.size W1 W2 → Ax xs[i] (.slice A m cc) W1 a' W2 → Only (fun j => j = w.heap.size + 1) W2 W3 →
        body.wpIn (Fence.wide.inRound l) 3 P (bodyPostP (fun j => pr w.heap.size (2 + c) j ∨ Kp j) (I (i + 1)) (fun c => Ix c (i + 1)) W3) a' W3)
    (hKp : ∀ j, Kp j → j < w.heap.size)
    (hdone : ∀ (W0 W : World), I xs.length W0 → w.heap.size ≤ W0.heap.size → Only (pr w.heap.size (2 + c)) W0 W → W.heap[w.heap.size]? = some (.deferred (some [])) → Q .normal { a with defers := { target := .collected w.heap.size, args := #[] } :: a.defers } W)
    (hstop : ∀ (c' : Code) (i : Nat) (W0 W : World), 0 < i → i ≤ xs.length → Ix c' i W0 → w.heap.size ≤ W0.heap.size → Only (pr w.heap.size (2 + c)) W0 W → W.heap[w.heap.size]? = some (.deferred (some [])) → c'.wpIn Fence.wide 3 P Q { a with defers := { target := .collected w.heap.size, args := #[] } :: a.defers } W) :
    (Code.rangeFunc g ps assign body).wpIn Fence.wide 3 P Q a w := by
  refine wpIn_rangeFunc ?_
  intro fn hfn
  rw [show Fence.wide.round = none from rfl]
  obtain ⟨rec, hrec⟩ : ∃ rec : LoopState → Option Code → Loop, rec = fun st pe => { state := st, pending := pe, fn, tmps := a.tmps, params := ps, assign, body, defers := w.heap.size } := ⟨_, rfl⟩
  obtain ⟨W1, hW1⟩ : ∃ W1, (w.alloc (.deferred (some []))).alloc (.loop (rec .ready none)) = W1 := ⟨_, rfl⟩
  have hL1 : W1.heap[w.heap.size + 1]? = some (.loop (rec .ready none)) := by
    rw [← hW1]; have := World.alloc_heap_new (w.alloc (.deferred (some []))) (.loop (rec .ready none)); rwa [World.size_alloc] at this
  have hK1 : W1.heap[w.heap.size]? = some (.deferred (some [])) := by
    rw [← hW1]; exact (Below.heap_alloc _ _ _ (by simp)).trans (World.alloc_heap_new w _)
  have hb1 : Below w.heap.size w W1 := by
    rw [← hW1]; exact ((Below.refl _ w).alloc (Nat.le_refl _) _).alloc (by simp) _
  have hz1 : W1.heap.size = w.heap.size + 2 := by rw [← hW1]; simp
  refine ⟨w.heap.size + 1, [{ target := .collected w.heap.size, args := #[] }], W1, { target := .fn (.func gf) lb, args := #[.func (.yield (w.heap.size + 1)) #[] #[]] }, W1, gf,
    #[.func (.yield (w.heap.size + 1)) #[] #[]] ++ lb, W1, ?_, ?_, fun _ _ => trivial, ?_, fun _ => by omega, ?_⟩
  · rw [← hW1, hrec]; exact run_enterLoop_outer _ _ _ _ _
  · simp only [resolve, hg]
    simp [go_sem]
  · simp [invoke, go_sem, eg]
  · refine callsIn_wide.2 ?_
    refine (hseq (w.heap.size + 1)
      (fun i W => ∃ W0, I i W0 ∧ w.heap.size ≤ W0.heap.size ∧ Only (pr w.heap.size 2) W0 W ∧ W.heap[w.heap.size + 1]? = some (.loop (rec .ready none)) ∧ W.heap[w.heap.size]? = some (.deferred (some [])))
      (fun i W => ∃ c' W0, Ix c' i W0 ∧ w.heap.size ≤ W0.heap.size ∧ Only (pr w.heap.size 2) W0 W ∧ W.heap[w.heap.size + 1]? = some (.loop (rec .done (some c'))) ∧ W.heap[w.heap.size]? = some (.deferred (some [])))
      W1 hb1 ?_ ⟨w, h0, Nat.le_refl _, Only.of_below hb1, hL1, hK1⟩).mono ?_
    · -- one round
      rintro i V0 V1 A m cc hi ⟨W0, hi0, hle, hO, hl, hk⟩ hO1 hsz hsz0 hown hlow
      rw [hz1] at hO1 hsz hsz0 hlow
      have e1 := hO1.row (g := w.heap.size + 1) (by rintro ⟨h1, _⟩; omega) hl
      have e0 := hO1.row (g := w.heap.size) (by rintro ⟨h1, _⟩; omega) hk
      have hlt : w.heap.size + 1 < V1.heap.size := (Array.getElem?_eq_some_iff.1 e1).1
      have hy := run_yield (P := P) (args := enc xs[i] (.slice A m cc)) e1 (by rw [hrec]; exact hps xs[i] _)
      rw [hrec] at hy
      have hOO : Only (pr w.heap.size (2 + c)) W0 V1 := Only.trans (only_le hO fun j _ h => ⟨h.1, by have := h.2; omega⟩) hO1 (fun j _ h => ⟨by have := h.1; omega, by have := h.2; omega⟩)
      have hown0 : Own W0.heap.size V1 A m cc (dat xs[i]) := hown.mono hO.size
      refine ⟨fn, _, assign, body, hy, roundIn_wide' (l' := w.heap.size + 1) (m := 3) (roundIn_of_wpIn (n := 3) trivial (wpIn_mono (hassign (w.heap.size + 1) xs[i] A m cc V1) ?_))⟩
      rintro e a' V2 hq
      cases e with
      | normal =>
        obtain ⟨hb2, hax⟩ := hq
        have e2 := (hb2.block _ hlt).trans e1
        have d2 := (hb2.block _ (by omega)).trans e0
        have hlt2 := (Array.getElem?_eq_some_iff.1 e2).1
        refine ⟨_, run_beginRound e2 (by rw [hrec]), ?_⟩
        have hl3 : (V2.putObj (w.heap.size + 1) (.loop { rec .ready none with state := .busy })).heap[w.heap.size + 1]? = some (.loop { rec .ready none with state := .busy }) := World.putObj_heap_same hlt2
        have hk3 : (V2.putObj (w.heap.size + 1) (.loop { rec .ready none with state := .busy })).heap[w.heap.size]? = some (.deferred (some [])) := (World.putObj_heap_other (by omega)).trans d2
        have hO3 := only_putObj V2 (w.heap.size + 1) (.loop { rec .ready none with state := .busy })
        refine wpIn_mono (hbody (w.heap.size + 1) i A m cc W0 V1 V2 _ a' hi hi0 hle hOO (by omega) hown0 (fun ad ha => by have := hlow ad ha; omega) hb2 hax hO3) ?_
        have fin : ∀ (jump : Option Code) (V4 : World), KeepsR (fun j => pr w.heap.size (2 + c) j ∨ Kp j) (V2.putObj (w.heap.size + 1) (.loop { rec .ready none with state := .busy })) V4 →
            (Instr.endRound (w.heap.size + 1) jump).run P V4 = .ok (.bool jump.isNone) (V4.putObj (w.heap.size + 1) (.loop (rec (if jump.isNone then .ready else .done) jump))) ∧
            (V4.putObj (w.heap.size + 1) (.loop (rec (if jump.isNone then .ready else .done) jump))).heap[w.heap.size + 1]? = some (.loop (rec (if jump.isNone then .ready else .done) jump)) ∧
            (V4.putObj (w.heap.size + 1) (.loop (rec (if jump.isNone then .ready else .done) jump))).heap[w.heap.size]? = some (.deferred (some [])) ∧
            KeepsR (fun j => pr W1.heap.size c j ∨ Kp j) V1 (V4.putObj (w.heap.size + 1) (.loop (rec (if jump.isNone then .ready else .done) jump))) := fun jump V4 hk4 => by
          have e4 := (hk4.same (w.heap.size + 1) (.inl ⟨by omega, by omega⟩)).trans hl3
          have d4 := (hk4.same w.heap.size (.inl ⟨by omega, by omega⟩)).trans hk3
          have := run_endRound (P := P) jump e4
          rw [hrec] at this ⊢
          refine ⟨this, World.putObj_heap_same (Array.getElem?_eq_some_iff.1 e4).1, (World.putObj_heap_other (by omega)).trans d4, ⟨?_, fun j hj => ?_⟩⟩
          · have h1 := hb2.size
            have h2 := hk4.size
            simp only [World.putObj_size] at h2 ⊢
            omega
          · have hjl : j ≠ w.heap.size + 1 := by
              rcases hj with hj | hj
              · have := hj.1; omega
              · have := hKp j hj; omega
            have hjV : j < V1.heap.size := by
              rcases hj with hj | hj
              · have := hj.2; omega
              · have := hKp j hj; omega
            rw [World.putObj_heap_other hjl, hk4.same j (by rcases hj with hj | hj; exact .inl ⟨by have := hj.1; omega, by have := hj.2; omega⟩; exact .inr hj), World.putObj_heap_other hjl]
            exact hb2.block j hjV
        rintro e a3 V4 hp
        have hOn : ∀ o, Only (pr w.heap.size 2) V4 (V4.putObj (w.heap.size + 1) o) := fun o => only_le (only_putObj V4 (w.heap.size + 1) o) fun j _ h => by cases h; exact ⟨by omega, by omega⟩
        have hsz4 : ∀ {R : Nat → Prop}, KeepsR R (V2.putObj (w.heap.size + 1) (.loop { rec .ready none with state := .busy })) V4 → w.heap.size ≤ V4.heap.size := fun h => by
          have h1 := h.size; have h2 := hb2.size; simp only [World.putObj_size] at h1; omega
        cases e with
        | normal =>
          obtain ⟨hk4, hi4⟩ := hp
          obtain ⟨hr, hl4, hd4, hkp⟩ := fin none V4 hk4
          exact ⟨_, _, hr, .inl ⟨rfl, ⟨V4, hi4, hsz4 hk4, hOn _, hl4, hd4⟩, hkp⟩⟩
        | ret =>
          obtain ⟨hk4, hi4⟩ := hp
          obtain ⟨hr, hl4, hd4, hkp⟩ := fin (some .ret) V4 hk4
          exact ⟨_, _, hr, .inr ⟨rfl, ⟨.ret, V4, hi4, hsz4 hk4, hOn _, hl4, hd4⟩, hkp⟩⟩
        | exit id =>
          obtain ⟨hk4, hi4⟩ := hp
          obtain ⟨hr, hl4, hd4, hkp⟩ := fin (some (.exit id)) V4 hk4
          exact ⟨_, _, hr, .inr ⟨rfl, ⟨.exit id, V4, hi4, hsz4 hk4, hOn _, hl4, hd4⟩, hkp⟩⟩
        | goto t =>
          obtain ⟨hk4, hi4⟩ := hp
          obtain ⟨hr, hl4, hd4, hkp⟩ := fin (some (.goto t)) V4 hk4
          exact ⟨_, _, hr, .inr ⟨rfl, ⟨.goto t, V4, hi4, hsz4 hk4, hOn _, hl4, hd4⟩, hkp⟩⟩
        | panic ch => exact hp.elim
        | outgrown => exact hp.elim
      | ret => exact hq.elim
      | exit id => exact hq.elim
      | goto t => exact hq.elim
      | panic ch => exact hq.elim
      | outgrown => exact hq.elim
    · -- behind the iterator
      rintro e V ⟨⟨v, rfl⟩, V0, hO1, (⟨W0, hi0, hle, hO, hl, hk⟩ | ⟨i, hip, hil, c', W0, hi0, hle, hO, hl, hk⟩)⟩
      all_goals
        rw [hz1] at hO1
        have e1 := hO1.row (g := w.heap.size + 1) (by rintro ⟨h1, _⟩; omega) hl
        have e0 := hO1.row (g := w.heap.size) (by rintro ⟨h1, _⟩; omega) hk
        have hOO : Only (pr w.heap.size (2 + c)) W0 V := Only.trans (only_le hO fun j _ h => ⟨h.1, by have := h.2; omega⟩) hO1 (fun j _ h => ⟨by have := h.1; omega, by have := h.2; omega⟩)
        have hOf : ∀ o, Only (pr w.heap.size (2 + c)) W0 (V.putObj (w.heap.size + 1) o) := fun o => Only.trans hOO (only_putObj V (w.heap.size + 1) o) (fun j _ h => by cases h; exact ⟨by omega, by omega⟩)
      · exact ⟨none, _, by have := run_endLoop (P := P) e1 (by rw [hrec]; simp); rw [hrec] at this; exact this, hdone W0 _ hi0 hle (hOf _) ((World.putObj_heap_other (by omega)).trans e0)⟩
      · exact ⟨some c', _, by have := run_endLoop (P := P) e1 (by rw [hrec]; simp); rw [hrec] at this; exact this, hstop c' i W0 _ hip hil hi0 hle (hOf _) ((World.putObj_heap_other (by omega)).trans e0)⟩

/-- a struct stored into a block, inside a round -/
theorem wpListIn_store_row {F : Fence} {n : Nat} {P : Program} {ops : Array Oper} {rest : List Oper} {o : Oper} {a : Act} {w : World} {Q : Exit → Act → World → Prop} (hgd : o.guard = none) (ty : TypeId) (x y : Operand) (ho : o.op = .store ty x y)
    (g : Nat) (cells : Array Value) (hx : a.eval x = .pointer (some ⟨g, 0, none⟩)) (hy : a.eval y = .agg cells)
    (t : TypeId) (old : Array Value) (hg : w.heap[g]? = some (.cells old t (0, 0))) (hi : (P.info? ty).map (·.size) = some cells.size)
    (hold : old.size = cells.size) (h1 : cells.all (·.oneCell') = true)
    (h : wpListIn F n P ops Q rest (a.put o.dst undef) (w.setRow g cells)) : wpListIn F n P ops Q (o :: rest) a w := by
  refine wpListIn_plain hgd fun K hK => ?_
  unfold Oper.wpIn
  refine ⟨?_, ?_⟩
  · simp [Oper.about, ho]
  · rw [Oper.semAt_plain F _ _ (by rw [ho]; intro c hc; cases hc)]
    simp only [execOp, ho, hx, hy, Instr.storeAt, Instr.sureAddr, Sem.run_bind, Sem.run_pure, Result.andThen_ok, run_storeVar_row w g t ty old cells hg hi hold h1]
    exact hK _ _ h

theorem alloc_heap (w : World) (o : Obj) : (w.alloc o).heap = w.heap.push o := rfl
/-- five blocks, one behind the other -/
theorem alloc5 (w : World) (a b c d e : Obj) : ∀ W, W = (((((w.alloc a).alloc b).alloc c).alloc d).alloc e) →
    Below w.heap.size w W ∧ W.heap.size = w.heap.size + 5 ∧ W.heap[w.heap.size]? = some a ∧ W.heap[w.heap.size + 1]? = some b ∧ W.heap[w.heap.size + 2]? = some c ∧ W.heap[w.heap.size + 3]? = some d ∧ W.heap[w.heap.size + 4]? = some e := by
  rintro W rfl
  refine ⟨(((((Below.refl _ _).alloc (Nat.le_refl _) _).alloc (by simp) _).alloc (by simp; omega) _).alloc (by simp; omega) _).alloc (by simp; omega) _, by simp, ?_, ?_, ?_, ?_, ?_⟩
  all_goals
    simp only [alloc_heap, Array.getElem?_push, Array.size_push]
    repeat (first | rw [if_pos trivial] | rw [if_pos (by omega)] | rw [if_neg (by omega)])
end Go.Proofs.Ytdfabjkffjacoaa
