/- Only: what changed between two worlds. -/
import Derived.Test.YtdfabjkffjacoaaOwn
import Derived.Below
import Derived.BigQuiet
namespace Go.Proofs.Ytdfabjkffjacoaa
open Go.RowKit

/-- only the rows that R names have changed -/
structure Only (R : Nat → Prop) (w w' : World) : Prop where
  os : w'.os = w.os
  tape : w'.tape = w.tape
  output : w'.output = w.output
  size : w.heap.size ≤ w'.heap.size
  block : ∀ j, j < w.heap.size → ¬ R j → w'.heap[j]? = w.heap[j]?
section
variable {R R' : Nat → Prop} {w w1 w2 : World}
theorem Only.refl (w : World) : Only R w w := ⟨rfl, rfl, rfl, Nat.le_refl _, fun _ _ _ => rfl⟩
theorem Only.trans (h : Only R w w1) (h' : Only R' w1 w2) (hR : ∀ j, j < w.heap.size → R' j → R j) : Only R w w2 :=
  ⟨h'.os.trans h.os, h'.tape.trans h.tape, h'.output.trans h.output, Nat.le_trans h.size h'.size, fun j hj hn => (h'.block j (Nat.lt_of_lt_of_le hj h.size) fun hr => hn (hR j hj hr)).trans (h.block j hj hn)⟩
theorem Only.of_below (h : Below w.heap.size w w1) : Only R w w1 := ⟨h.os, h.tape, h.output, h.size, fun j hj _ => h.block j hj⟩
theorem Only.of_grown {row : Option Nat} (h : w.grownBy w1 row) (hR : ∀ j, row = some j → R j) : Only R w w1 :=
  ⟨h.os, h.tape, h.output, h.size, fun j hj hn => h.block j hj fun e => hn (hR j e.symm)⟩
theorem Only.below {B : Nat} (h : Only R w w1) (hB : B ≤ w.heap.size) (hR : ∀ j, R j → B ≤ j) : Below B w w1 :=
  ⟨h.os, h.tape, h.output, h.size, fun j hj => h.block j (by omega) fun hr => by have := hR j hr; omega⟩
theorem Only.cell {a : Addr} {v : Value} (h : Only R w w1) (hR : ¬ R a.block) (hc : w.cell? a = some v) : w1.cell? a = some v :=
  (World.cell?_of_block (h.block _ (World.block_lt_of_cell? w a hc) hR)).trans hc
theorem Only.row {g : Nat} {o : Obj} (h : Only R w w1) (hR : ¬ R g) (hg : w.heap[g]? = some o) : w1.heap[g]? = some o :=
  (h.block _ (Array.getElem?_eq_some_iff.1 hg).1 hR).trans hg
theorem Only.own {B n c : Nat} {A : Option Addr} {l : List UInt8} (h : Only R w w1) (hR : ∀ ad, A = some ad → ¬ R ad.block) (ho : Own B w A n c l) : Own B w1 A n c l := by
  refine ⟨ho.1, ?_⟩
  rcases ho.2 with hn | ⟨g, cap, cur, hv, hbg, hg, r⟩
  · exact .inl hn
  · refine .inr ⟨g, cap, cur, hv, hbg, h.row (hR ⟨g, 0, none⟩ (by injection hv)) hg, r⟩
theorem Only.rows {B n size : Nat} {t : TypeId} {A : Option Addr} {m c : Nat} {l : List Value} (h : Only R w w1) (hR : ∀ ad, A = some ad → ¬ R ad.block) (ho : w.ownsRow B t size (.slice A m c) n l) : w1.ownsRow B t size (.slice A m c) n l := by
  refine ⟨ho.1, ?_⟩
  rcases ho.2 with hn | ⟨g, cap, cur, hv, hbg, hg, r⟩
  · exact .inl hn
  · refine .inr ⟨g, cap, cur, hv, hbg, h.row (hR ⟨g, 0, none⟩ (by injection hv)) hg, r⟩
theorem Only.rd {D : Option Addr} {l : List Value} (h : Only R w w1) (hR : ∀ ad, D = some ad → ¬ R ad.block) (hr : Rd w D l) : Rd w1 D l := fun j u hj => by
  obtain ⟨ad, hA, hc⟩ := hr j u hj
  exact ⟨ad, hA, h.cell (by rw [block_of_add]; exact hR ad hA) hc⟩
end

theorem drewN_below (B : Nat) (w : World) (k : Nat) : Below B w (w.drewN k) := ⟨rfl, rfl, rfl, Nat.le_refl _, fun _ _ => rfl⟩
theorem only_set (w : World) (p o : Nat) (v : Value) : Only (fun j => j = p) w (w.setCell ⟨p, o, none⟩ v) :=
  ⟨rfl, rfl, rfl, by simp [World.setCell], fun j _ hn => Below.heap_setCell _ _ _ _ hn⟩
structure Key (T : Prop) : Prop where
  out : T
theorem via {T G : Prop} (h : Key T → G) (k : T) : G := h ⟨k⟩
theorem keep_cell {w w' : World} {a : Addr} {v : Value} (hb : Below w.heap.size w w') (h : w.cell? a = some v) : w'.cell? a = some v := (hb.cell (World.block_lt_of_cell? w a h)).trans h

end Go.Proofs.Ytdfabjkffjacoaa
