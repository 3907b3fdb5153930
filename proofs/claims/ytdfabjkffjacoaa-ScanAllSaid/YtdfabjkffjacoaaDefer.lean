/- Walks: wire's Reader, the methods that defer. -/
import Derived.Test.YtdfabjkffjacoaaReader
import Derived.Defers
import Derived.Recover
import Derived.Orders
namespace Go.Proofs.Ytdfabjkffjacoaa
open Go.RowKit

section
variable {P : Program}
theorem wpS_region_draw {Q : Exit → Act → List Frame → World → Prop} {a : Act} {cs : List Frame} {w : World} {id : Nat} {ops : Array Oper}
    (h : ∀ t, wpOpsS P ops Q (Region.schedule (P.follows .mixedOrders) ops t) a cs w.drew) : (Code.region id ops true).wpS P Q a cs w :=
  fun b k hb hr => let ⟨e, a', cs', w', q, r⟩ := wp_opsS _ a cs _ (h _) b k hb hr; ⟨e, a', cs', w', q, .of_steps (.one step_region_draw) r⟩
theorem go_succ (md : Region.Mode) (ops : Array Oper) (fuel t : Nat) (listed : Array Bool) (acc : List Nat) : Region.linearise.go md ops (fuel + 1) t listed acc =
    match (Region.ready md ops listed)[t % (Region.ready md ops listed).length]? with
    | some i => Region.linearise.go md ops fuel (t / (Region.ready md ops listed).length) (listed.setIfInBounds i true) (i :: acc)
    | none => acc.reverse := rfl
theorem order2 (ops : Array Oper) (hs : ops.size = 3) (h0 : Region.ready .any ops #[false, false, false] = [0, 1]) (h1 : Region.ready .any ops #[true, false, false] = [1])
    (h2 : Region.ready .any ops #[false, true, false] = [0]) (h3 : Region.ready .any ops #[true, true, false] = [2]) (t : Nat) :
    Region.linearise .any ops t = [0, 1, 2] ∨ Region.linearise .any ops t = [1, 0, 2] := by
  have hrep : Array.replicate 3 false = #[false, false, false] := rfl
  unfold Region.linearise
  rw [hs, hrep, go_succ, h0]
  have ht : t % [0, 1].length = 0 ∨ t % [0, 1].length = 1 := by simp only [List.length_cons, List.length_nil]; omega
  rcases ht with ht | ht
  · left
    rw [ht]
    show Region.linearise.go .any ops 2 _ #[true, false, false] [0] = _
    rw [go_succ, h1]
    simp only [List.length_singleton, Nat.mod_one]
    show Region.linearise.go .any ops 1 _ #[true, true, false] [1, 0] = _
    rw [go_succ, h3]
    simp only [List.length_singleton, Nat.mod_one]
    rfl
  · right
    rw [ht]
    show Region.linearise.go .any ops 2 _ #[false, true, false] [1] = _
    rw [go_succ, h2]
    simp only [List.length_singleton, Nat.mod_one]
    show Region.linearise.go .any ops 1 _ #[true, true, false] [0, 1] = _
    rw [go_succ, h3]
    simp only [List.length_singleton, Nat.mod_one]
    rfl
theorem wpS_region2 {Q : Exit → Act → List Frame → World → Prop} {a : Act} {cs : List Frame} {w : World} {id : Nat} {ops : Array Oper} (hm : P.follows .mixedOrders = true) (hs : ops.size = 3)
    (h0 : Region.ready .any ops #[false, false, false] = [0, 1]) (h1 : Region.ready .any ops #[true, false, false] = [1])
    (h2 : Region.ready .any ops #[false, true, false] = [0]) (h3 : Region.ready .any ops #[true, true, false] = [2])
    (ha : wpOpsS P ops Q [0, 1, 2] a cs w.drew) (hb : wpOpsS P ops Q [1, 0, 2] a cs w.drew) : (Code.region id ops true).wpS P Q a cs w := by
  apply wpS_region_draw
  intro t
  simp only [Region.schedule, hm, Bool.true_or, if_true]
  rcases order2 ops hs h0 h1 h2 h3 t with h | h
  · rw [h]; exact ha
  · rw [h]; exact hb
end

set_option maxHeartbeats 400000 in
theorem stop_nil (r : Value) (w : World) :
    Calls Try.prog 56 #[r, .nilIface] w fun e w' => e = .returned (.bool false) ∧ w = w' := by
  go_enter Try.func56, Try.ntmps56
  go_wp2
  go_ret
  exact ⟨rfl, rfl⟩


/-- the reader has gone on -/
def ReadP (w : World) (g : Nat) (A : Option Addr) (n c at_ : Nat) (v : Value) (e : Ending) (w' : World) : Prop :=
  e = .returned v ∧ w.grownBy w' (some g) ∧ w'.heap[g]? = some (rdr A n c at_)

set_option maxHeartbeats 400000 in
theorem catch32_idle (p q : Addr) (r : Value) (w : World) (hr : w.cell? p = some r) :
    CallsD Try.prog 55 #[.pointer (some p), .pointer (some q)] .returning w fun e u' w' => e = .returned (.tuple #[]) ∧ u' = .returning ∧ w' = w.drew := by
  refine callsD_of_wpS Try.func55 rfl fun c₀ cs hu => ?_
  apply wpS_seq
  have hr' : w.drew.cell? p = some r := hr
  refine wpS_region2 Try.checked.mixed rfl (by kernel_rfl) (by kernel_rfl) (by kernel_rfl) (by kernel_rfl) ?_ ?_
  all_goals
    simp [wpOpsS, go_sem, recoverD, hu, Try.ntmps55, hr']
    refine (stop_nil _ _).mono ?_
    rintro e w' ⟨rfl, rfl⟩
    simp only [Exit.thenS]
    refine wpS_cond (t := false) (by simp [Act.eval, Array.replicate]) ?_
    simp only [Bool.false_eq_true, if_false]
    refine wpS_of_wp (wp_skip ?_)
    cases c₀
    simp_all [bodyPostS, results, Try.results55]

set_option maxHeartbeats 400000 in
theorem read32_any (g : Nat) (A : Option Addr) (l : List UInt8) (n c at_ : Nat) (hl : l.length = n) (h1 : at_ + 4 ≤ n) (h2 : n ≤ c) (h3 : c ≤ 9223372036854775807) (w : World) (hr : Rd w A (bv l)) (hg : w.heap[g]? = some (rdr A n c at_)) :
    Calls Try.prog 44 #[.pointer (some ⟨g, 0, none⟩)] w (ReadP w g A n c (at_ + 4) (.int .u32 (num ((l.drop at_).take 4) : Nat))) := by
  have hmf : ∀ (fn : Fn) (first cap : Array Value) (w : World), (Instr.makeFunc fn first cap).run Try.prog w = .ok (.func fn first cap) w := fun _ _ _ _ => rfl
  have hlt : g < w.heap.size := (Array.getElem?_eq_some_iff.1 hg).1
  have hbnd : num ((l.drop at_).take 4) < 256 ^ 4 := by
    have := num_lt ((l.drop at_).take 4)
    rwa [List.length_take_of_le (by rw [List.length_drop]; omega)] at this
  generalize hN : num ((l.drop at_).take 4) = N at *
  have HN := Lib.hid hN; clear hN
  have hb0 : Below w.heap.size w ((w.alloc (Obj.cells #[Value.pointer (some ⟨g, 0, none⟩)] 81)).alloc (Obj.cells #[Value.int IntKind.u32 0] 35)) := ((Below.refl _ _).alloc (Nat.le_refl _) _).alloc (by simp) _
  have hg0 := (hb0.block g hlt).trans hg
  have hr0 := hr.keep hb0
  have p0 : ((w.alloc (Obj.cells #[Value.pointer (some ⟨g, 0, none⟩)] 81)).alloc (Obj.cells #[Value.int IntKind.u32 0] 35)).heap[w.heap.size]? = some (.cells #[Value.pointer (some ⟨g, 0, none⟩)] 81 (0, 0)) := heap_alloc2_old w _ _
  have p1 : ((w.alloc (Obj.cells #[Value.pointer (some ⟨g, 0, none⟩)] 81)).alloc (Obj.cells #[Value.int IntKind.u32 0] 35)).heap[w.heap.size + 1]? = some (.cells #[Value.int IntKind.u32 0] 35 (0, 0)) := heap_alloc2_new w _ _
  have hsz : ((w.alloc (Obj.cells #[Value.pointer (some ⟨g, 0, none⟩)] 81)).alloc (Obj.cells #[Value.int IntKind.u32 0] 35)).heap.size = w.heap.size + 2 := by simp
  go_enter_defers Try.func44, Try.ntmps44
  go_wp2_with fail
  generalize ((w.alloc (Obj.cells #[Value.pointer (some ⟨g, 0, none⟩)] 81)).alloc (Obj.cells #[Value.int IntKind.u32 0] 35)) = W0 at *
  refine (low_any g A l n c at_ 4 (by omega) hl h1 h2 h3 W0 hr0 hg0).mono ?_
  rintro e w1 ⟨rfl, hgr, hg1⟩
  rw [HN.out]
  have q0 := (hgr.block w.heap.size (by omega) (fun e => by injection e; omega)).trans p0
  have q1 := (hgr.block (w.heap.size + 1) (by omega) (fun e => by injection e; omega)).trans p1
  have c0 : w1.cell? ⟨w.heap.size, 0, none⟩ = some (.pointer (some ⟨g, 0, none⟩)) := cell_of_row _ _ 0 _ _ _ q0
  have c1 : w1.cell? ⟨w.heap.size + 1, 0, none⟩ = some (.int .u32 0) := cell_of_row _ _ 0 _ _ _ q1
  have f1 : w1.frozen? ⟨w.heap.size + 1, 0, none⟩ = false := frozen_of_row _ _ 0 _ _ q1
  go_wp2
  refine leaves_cons (f := 55) (args := #[.pointer (some ⟨w.heap.size, 0, none⟩), .pointer (some ⟨w.heap.size + 1, 0, none⟩)]) (by simp) (by simp [go_sem]) ?_
  refine (catch32_idle _ _ (.pointer (some ⟨g, 0, none⟩)) _ ?_).mono ?_
  · rw [World.cell?_setCell_other _ _ _ _ (by simp)]
    exact c0
  rintro e u' w'' ⟨rfl, rfl, rfl⟩
  simp [Leaves, settle, results, Try.results44, go_sem]
  rw [World.cell?_setCell_same _ _ _ c1]
  refine ⟨_, rfl, rfl, ⟨hgr.os.trans hb0.os, hgr.tape.trans hb0.tape, hgr.output.trans hb0.output, ?_, ?_⟩, ?_⟩
  · have := hgr.size
    simp [World.setCell]; omega
  · intro k hk hne
    show (w1.setCell _ _).heap[k]? = _
    rw [heap_setCell_other _ _ _ _ (by simp; omega), hgr.block k (by omega) hne, hb0.block k hk]
  · show (w1.setCell _ _).heap[g]? = _
    rw [heap_setCell_other _ _ _ _ (by simp; omega), hg1]

set_option maxHeartbeats 400000 in
theorem catch64_idle (p q : Addr) (r : Value) (w : World) (hr : w.cell? p = some r) :
    CallsD Try.prog 65 #[.pointer (some p), .pointer (some q)] .returning w fun e u' w' => e = .returned (.tuple #[]) ∧ u' = .returning ∧ w' = w.drew := by
  refine callsD_of_wpS Try.func65 rfl fun c₀ cs hu => ?_
  apply wpS_seq
  have hr' : w.drew.cell? p = some r := hr
  refine wpS_region2 Try.checked.mixed rfl (by kernel_rfl) (by kernel_rfl) (by kernel_rfl) (by kernel_rfl) ?_ ?_
  all_goals
    simp [wpOpsS, go_sem, recoverD, hu, Try.ntmps65, hr']
    refine (stop_nil _ _).mono ?_
    rintro e w' ⟨rfl, rfl⟩
    simp only [Exit.thenS]
    refine wpS_cond (t := false) (by simp [Act.eval, Array.replicate]) ?_
    simp only [Bool.false_eq_true, if_false]
    refine wpS_of_wp (wp_skip ?_)
    cases c₀
    simp_all [bodyPostS, results, Try.results65]

set_option maxHeartbeats 400000 in
theorem read64_any (g : Nat) (A : Option Addr) (l : List UInt8) (n c at_ : Nat) (hl : l.length = n) (h1 : at_ + 8 ≤ n) (h2 : n ≤ c) (h3 : c ≤ 9223372036854775807) (w : World) (hr : Rd w A (bv l)) (hg : w.heap[g]? = some (rdr A n c at_)) :
    Calls Try.prog 58 #[.pointer (some ⟨g, 0, none⟩)] w (ReadP w g A n c (at_ + 8) (.int .u64 (num ((l.drop at_).take 8) : Nat))) := by
  have hmf : ∀ (fn : Fn) (first cap : Array Value) (w : World), (Instr.makeFunc fn first cap).run Try.prog w = .ok (.func fn first cap) w := fun _ _ _ _ => rfl
  have hlt : g < w.heap.size := (Array.getElem?_eq_some_iff.1 hg).1
  have hbnd : num ((l.drop at_).take 8) < 256 ^ 8 := by
    have := num_lt ((l.drop at_).take 8)
    rwa [List.length_take_of_le (by rw [List.length_drop]; omega)] at this
  generalize hN : num ((l.drop at_).take 8) = N at *
  have HN := Lib.hid hN; clear hN
  have hb0 : Below w.heap.size w ((w.alloc (Obj.cells #[Value.pointer (some ⟨g, 0, none⟩)] 81)).alloc (Obj.cells #[Value.int IntKind.u64 0] 76)) := ((Below.refl _ _).alloc (Nat.le_refl _) _).alloc (by simp) _
  have hg0 := (hb0.block g hlt).trans hg
  have hr0 := hr.keep hb0
  have p0 : ((w.alloc (Obj.cells #[Value.pointer (some ⟨g, 0, none⟩)] 81)).alloc (Obj.cells #[Value.int IntKind.u64 0] 76)).heap[w.heap.size]? = some (.cells #[Value.pointer (some ⟨g, 0, none⟩)] 81 (0, 0)) := heap_alloc2_old w _ _
  have p1 : ((w.alloc (Obj.cells #[Value.pointer (some ⟨g, 0, none⟩)] 81)).alloc (Obj.cells #[Value.int IntKind.u64 0] 76)).heap[w.heap.size + 1]? = some (.cells #[Value.int IntKind.u64 0] 76 (0, 0)) := heap_alloc2_new w _ _
  have hsz : ((w.alloc (Obj.cells #[Value.pointer (some ⟨g, 0, none⟩)] 81)).alloc (Obj.cells #[Value.int IntKind.u64 0] 76)).heap.size = w.heap.size + 2 := by simp
  go_enter_defers Try.func58, Try.ntmps58
  go_wp2_with fail
  generalize ((w.alloc (Obj.cells #[Value.pointer (some ⟨g, 0, none⟩)] 81)).alloc (Obj.cells #[Value.int IntKind.u64 0] 76)) = W0 at *
  refine (low_any g A l n c at_ 8 (by omega) hl h1 h2 h3 W0 hr0 hg0).mono ?_
  rintro e w1 ⟨rfl, hgr, hg1⟩
  rw [HN.out]
  have q0 := (hgr.block w.heap.size (by omega) (fun e => by injection e; omega)).trans p0
  have q1 := (hgr.block (w.heap.size + 1) (by omega) (fun e => by injection e; omega)).trans p1
  have c0 : w1.cell? ⟨w.heap.size, 0, none⟩ = some (.pointer (some ⟨g, 0, none⟩)) := cell_of_row _ _ 0 _ _ _ q0
  have c1 : w1.cell? ⟨w.heap.size + 1, 0, none⟩ = some (.int .u64 0) := cell_of_row _ _ 0 _ _ _ q1
  have f1 : w1.frozen? ⟨w.heap.size + 1, 0, none⟩ = false := frozen_of_row _ _ 0 _ _ q1
  go_wp2
  refine leaves_cons (f := 65) (args := #[.pointer (some ⟨w.heap.size, 0, none⟩), .pointer (some ⟨w.heap.size + 1, 0, none⟩)]) (by simp) (by simp [go_sem]) ?_
  refine (catch64_idle _ _ (.pointer (some ⟨g, 0, none⟩)) _ ?_).mono ?_
  · rw [World.cell?_setCell_other _ _ _ _ (by simp)]
    exact c0
  rintro e u' w'' ⟨rfl, rfl, rfl⟩
  simp [Leaves, settle, results, Try.results58, go_sem]
  rw [World.cell?_setCell_same _ _ _ c1]
  refine ⟨_, rfl, rfl, ⟨hgr.os.trans hb0.os, hgr.tape.trans hb0.tape, hgr.output.trans hb0.output, ?_, ?_⟩, ?_⟩
  · have := hgr.size
    simp [World.setCell]; omega
  · intro k hk hne
    show (w1.setCell _ _).heap[k]? = _
    rw [heap_setCell_other _ _ _ _ (by simp; omega), hgr.block k (by omega) hne, hb0.block k hk]
  · show (w1.setCell _ _).heap[g]? = _
    rw [heap_setCell_other _ _ _ _ (by simp; omega), hg1]

end Go.Proofs.Ytdfabjkffjacoaa
