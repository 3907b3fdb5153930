/- Walk: scan.Over. -/
import Derived.Test.YtdfabjkffjacoaaAlong
import Derived.Shelf.Abstract
namespace Go.Proofs.Ytdfabjkffjacoaa
open Go.RowKit Go.Shelf
attribute [local go_sem] Oper.semAt_some

def OverP (w : World) (s : Sc) (y : Nat) (e : Ending) (w' : World) : Prop := e = .returned (.agg (scv s y)) ∧ Below w.heap.size w w'

def zsc : Array Value := #[.int .i64 0, .int .i64 0, .int .i64 0, .int .u32 0, .int .i64 0]
def lastv (xs : List (Sc × Nat × Nat × List UInt8)) : Nat → Array Value
  | 0 => zsc
  | i + 1 => match xs[i]? with
    | some x => scv x.1 x.2.1
    | none => zsc
theorem lastv_size (xs : List (Sc × Nat × Nat × List UInt8)) (i : Nat) : (lastv xs i).size = 5 := by
  cases i with
  | zero => rfl
  | succ i => simp only [lastv]; split <;> rfl
/-- what Over keeps between two rounds -/
structure OI (w : World) (xs : List (Sc × Nat × Nat × List UInt8)) (i : Nat) (W : World) : Prop where
  r0 : W.heap[w.heap.size]? = some (.cells zsc 57 (0, 0))
  r1 : W.heap[w.heap.size + 1]? = some (.cells (lastv xs i) 57 (0, 0))
  bl : Below w.heap.size w W
theorem OI.only {w W W' : World} {xs : List (Sc × Nat × Nat × List UInt8)} {i : Nat} {R : Nat → Prop} (h : OI w xs i W) (hO : Only R W W') (hR : ∀ j, R j → w.heap.size + 2 ≤ j) : OI w xs i W' :=
  ⟨hO.row (fun hr => by have := hR _ hr; omega) h.r0, hO.row (fun hr => by have := hR _ hr; omega) h.r1, h.bl.trans (hO.below h.bl.size fun j hj => by have := hR _ hj; omega)⟩
theorem bodyPostM_ret {fn : Func} {R : Ending → World → Prop} {a : Act} {W : World} {D : Nat} {v : Value} (hd : a.defers = [{ target := .collected D, args := #[] }]) (hk : W.heap[D]? = some (.deferred (some [])))
    (hr : (results fn a.tmps).run Try.prog (W.putObj D (.deferred none)) = .ok v (W.putObj D (.deferred none))) (hR : R (.returned v) (W.putObj D (.deferred none))) : bodyPostM Fence.wide 3 Try.prog fn R .ret a W := by
  show LeavesInM Fence.wide 3 Try.prog fn a.tmps R a.defers .returning W
  rw [hd]
  refine ⟨by simp, .inl ⟨_, _, rfl, run_takeDeferred hk, ?_⟩⟩
  exact ⟨_, hr, hR⟩

theorem results_cell1 {P : Program} {fn : Func} {p : Tmp} {ty : TypeId} (h : fn.results = #[.cell p ty]) (tmps : Array Value) (w : World) (g : Nat) (t : TypeId) (cs : Array Value) (fr : Nat × Nat) (d : TypeDesc)
    (hp : tmps.getD p undef = .pointer (some ⟨g, 0, none⟩)) (hg : w.heap[g]? = some (.cells cs t fr))
    (hu : P.underlying ty = some d) (hd : (match d with | .struct _ | .array _ _ => true | _ => false) = true) (hi : (P.info? ty).map (·.size) = some cs.size) :
    (results fn tmps).run P w = .ok (.agg cs) w := by
  have hp' : tmps[p]?.getD undef = .pointer (some ⟨g, 0, none⟩) := by simpa using hp
  simp [results, h, hp', asAddr, run_loadVar_row w g t ty cs fr d hg hu hd hi]

set_option maxRecDepth 100000 in
set_option maxHeartbeats 4000000 in
theorem over_any (b : List UInt8) (A : Option Addr) (n c : Nat) (base seed : Nat) (w : World) (hl : b.length = n) (hn : n ≤ 100000000) (hc : n ≤ c) (hr : Rd w A (bv b)) (hsd : seed < 4294967296)
    (g1 : 1 ≤ base) (g2 : base ≤ 9223372036854775807) :
    Calls Try.prog 30 #[.slice A n c, .int .i64 base, .int .u32 seed] w (OverP w (scanL b (n + 1) ⟨0, 0, base, seed⟩).2.1 (scanL b (n + 1) ⟨0, 0, base, seed⟩).2.2) := by
  have hb1 : decide ((base : Int) < 1) = false := by simp; omega
  refine callsIn_wide.1 (callsIn_of_wp_marks (n := 3) Try.func30 rfl trivial ?_ rfl)
  simp only [Try.ntmps30, List.size_toArray, List.length_cons, List.length_nil, Nat.reduceAdd, Nat.reduceSub, Array.replicate_succ, Array.replicate_zero, List.push_toArray, List.append_toArray, List.nil_append, List.cons_append]
  gi_wp2_with (refine ⟨trivial, ?_⟩; gi_at_call 51; refine (callsIn_wide.2 (along_any A n c base seed _)).mono ?_; rintro e w9 ⟨rfl, rfl⟩)
  obtain ⟨W5, hW5⟩ : ∃ W5, W5 = (((((w.alloc (Obj.cells zsc 57)).alloc (Obj.cells zsc 57)).alloc (Obj.cells #[.slice A n c] 31)).alloc (Obj.cells #[.int .i64 base] 2)).alloc (Obj.cells #[.int .u32 seed] 35)) := ⟨_, rfl⟩
  obtain ⟨hb5, hz5, q0, q1, q2, q3, q4⟩ := alloc5 w _ _ _ _ _ W5 hW5
  unfold zsc at hW5
  rw [← hW5]
  clear hW5
  have hrW := hr.keep hb5
  have HZ := Lib.hid hz5
  have HA : Hid (∀ _ : 0 < n, ∀ ad, A = some ad → ad.block < w.heap.size) := fun h0 ad ha => hr.lt (fun e => by have := bv_length b; rw [e] at this; simp at this; omega) ad ha
  obtain ⟨hs1, hs2, hs3, hs4⟩ := itemsL_scan b (n + 1) ⟨0, 0, base, seed⟩
  have hsq := along1_seq b A n c base seed (w.heap.size + 1 + 1 + 1) (w.heap.size + 1 + 1 + 2) (w.heap.size + 1 + 1) W5 hl hn hc hrW hsd g1 g2 (cell_of_row _ _ 0 _ _ _ q3) (cell_of_row _ _ 0 _ _ _ q4) (cell_of_row _ _ 0 _ _ _ q2)
  generalize itemsL b (n + 1) ⟨0, 0, base, seed⟩ = xs at *
  generalize scanL b (n + 1) ⟨0, 0, base, seed⟩ = sc at *
  refine wp_rangeP (gf := 61) rfl (enters_of Try.func61 (by kernel_rfl) rfl) hsq (fun _ _ => rfl) (OI w xs) (fun _ _ _ => False) ⟨q0, q1, hb5⟩
    (fun x v W1 a' W2 => W2.heap[W1.heap.size]? = some (.cells (scv x.1 x.2.1) 57 (0, 0)) ∧ a'.defers = [] ∧ ∃ u v, a'.tmps = #[.slice A n c, .int .i64 base, .int .u32 seed, undef, undef, undef, .pointer (some ⟨w.heap.size, 0, none⟩), .pointer (some ⟨w.heap.size + 1, 0, none⟩), .pointer (some ⟨W1.heap.size, 0, none⟩), .agg zsc, .int .i64 base, .bool false, undef, .slice A n c, .int .i64 base, .int .u32 seed, u, .agg (scv x.1 x.2.1), v, undef, undef]) ?assign ?body ?kp ?done ?stop
  case assign =>
    intro l x A' m' cc' W1
    simp only [encS, scv]
    gi_wp2
    exact ⟨(Below.refl _ _).alloc (Nat.le_refl _) _, heap_alloc_new _ _, trivial, _, _, rfl⟩
  case body =>
    rintro l i A1 m cc W0 W1 W2 W3 a' hi hI hle hO hsz ho _ hb ⟨hx, hd, u, v, ht⟩ hO3
    obtain ⟨tmps, defers⟩ := a'
    simp only at hd ht
    subst hd
    subst ht
    have hz5 := HZ.out
    have hI1 := hI.only hO (fun j hj => by have := hj.1; omega)
    have hI2 := hI1.only (R := fun _ => False) (Only.of_below hb) (fun _ h => h.elim)
    have hI3 := hI2.only hO3 (fun j hj => by omega)
    have x3 := hO3.row (g := W1.heap.size) (by omega) hx
    have y0 := cell_of_row _ _ 0 _ _ _ x3
    have y1 := cell_of_row _ _ 1 _ _ _ x3
    have y2 := cell_of_row _ _ 2 _ _ _ x3
    have y3 := cell_of_row _ _ 3 _ _ _ x3
    have y4 := cell_of_row _ _ 4 _ _ _ x3
    simp [scv] at y0 y1 y2 y3 y4
    clear hO hb hO3 hI hI1 hI2 hx ho hz5
    gi_wp2_with (refine wpListIn_store_row rfl _ (.tmp 7) (.tmp 19) rfl _ (scv xs[i].1 xs[i].2.1) rfl rfl _ _ hI3.r1 (by simp only [scv]; kernel_rfl) (by rw [lastv_size]; rfl) (by simp only [scv]; kernel_rfl) ?_)
    refine ⟨⟨by simp, fun j hj => setRow_other _ _ _ _ ?_⟩, setRow_other _ _ _ _ (by omega) |>.trans hI3.r0, ?_, hI3.bl.trans ⟨rfl, rfl, rfl, by simp, fun j hj => setRow_other _ _ j _ (by omega)⟩⟩
    · rcases hj with hj | rfl | ⟨hn0, ad, ha, rfl⟩
      · have := hj.1; have := HZ.out; omega
      · omega
      · have := HA.out hn0 ad ha; omega
    · rw [setRow_heap W3 _ _ _ _ _ hI3.r1]
      simp only [lastv, List.getElem?_eq_getElem hi]
  case kp =>
    rintro j (rfl | ⟨hn0, ad, ha, rfl⟩)
    · have := HZ.out; omega
    · have := HA.out hn0 ad ha; have := HZ.out; omega
  case done =>
    intro W0 W hI hle hO hk
    have hI1 := hI.only hO (fun j hj => by have := hj.1; have := HZ.out; omega)
    have hr1 := hI1.r1
    have hr0 := hI1.r0
    have hlv : lastv xs xs.length = scv sc.2.1 sc.2.2 := by
      rw [hs3]
      simp only [lastv, hs4]
    rw [hlv] at hr1
    have y0 := cell_of_row _ _ 0 _ _ _ hr1
    have y1 := cell_of_row _ _ 1 _ _ _ hr1
    have y2 := cell_of_row _ _ 2 _ _ _ hr1
    have y3 := cell_of_row _ _ 3 _ _ _ hr1
    have y4 := cell_of_row _ _ 4 _ _ _ hr1
    simp [scv] at y0 y1 y2 y3 y4
    have hD : W5.heap.size ≠ w.heap.size := by have := HZ.out; omega
    clear hs1 hs2 hs3 hs4 hlv
    gi_wp2_with (refine wpListIn_store_row rfl _ (.tmp 6) (.tmp 20) rfl _ (scv sc.2.1 sc.2.2) rfl rfl _ _ hr0 (by simp only [scv]; kernel_rfl) rfl (by simp only [scv]; kernel_rfl) ?_)
    have hk2 : (W.setRow w.heap.size (scv sc.2.1 sc.2.2)).heap[W5.heap.size]? = some (.deferred (some [])) := (setRow_other _ _ _ _ hD).trans hk
    have hr2 : ((W.setRow w.heap.size (scv sc.2.1 sc.2.2)).putObj W5.heap.size (.deferred none)).heap[w.heap.size]? = some (.cells (scv sc.2.1 sc.2.2) 57 (0, 0)) :=
      (World.putObj_heap_other (Ne.symm hD)).trans (setRow_heap W _ _ _ _ _ hr0)
    refine bodyPostM_ret rfl hk2 (results_cell1 rfl _ _ _ _ _ _ _ rfl hr2 Try.underlying57 rfl (by simp only [scv]; kernel_rfl)) ⟨rfl, ?_⟩
    refine hI1.bl.trans ⟨rfl, rfl, rfl, by simp, fun j hj => ?_⟩
    rw [World.putObj_heap_other (by have := HZ.out; omega)]
    exact setRow_other _ _ j _ (by omega)
  case stop =>
    intro _ _ _ _ _ _ h
    exact h.elim

set_option maxRecDepth 100000 in
theorem over_low (A : Option Addr) (n c : Nat) (base : Int) (seed : Int) (w : World) (g1 : base < 1) :
    Calls Try.prog 30 #[.slice A n c, .int .i64 base, .int .u32 seed] w (OverP w ⟨0, 0, 0, 0⟩ 0) := by
  have hb1 : decide (base < 1) = true := by simp; omega
  go_enter Try.func30, Try.ntmps30
  have p0 : ((w.alloc (Obj.cells #[.int .i64 0, .int .i64 0, .int .i64 0, .int .u32 0, .int .i64 0] 57)).alloc (Obj.cells #[.int .i64 0, .int .i64 0, .int .i64 0, .int .u32 0, .int .i64 0] 57)).heap[w.heap.size]? = some (.cells zsc 57 (0, 0)) := heap_alloc2_old w _ _
  have hb0 : Below w.heap.size w ((w.alloc (Obj.cells #[.int .i64 0, .int .i64 0, .int .i64 0, .int .u32 0, .int .i64 0] 57)).alloc (Obj.cells #[.int .i64 0, .int .i64 0, .int .i64 0, .int .u32 0, .int .i64 0] 57)) := ((Below.refl _ _).alloc (Nat.le_refl _) _).alloc (by simp) _
  go_wp2_with (refine wpList_store_row rfl _ (.tmp 6) (.tmp 12) rfl _ zsc rfl rfl _ _ p0 (by kernel_rfl) rfl (by kernel_rfl) ?_)
  refine bodyPost_ret (results_cell1 rfl _ _ _ _ _ _ _ rfl (setRow_heap _ _ _ _ _ _ p0) Try.underlying57 rfl (by kernel_rfl)) rfl ⟨rfl, ?_⟩
  exact hb0.trans ⟨rfl, rfl, rfl, by simp, fun j hj => setRow_other _ _ j _ (by omega)⟩
end Go.Proofs.Ytdfabjkffjacoaa
