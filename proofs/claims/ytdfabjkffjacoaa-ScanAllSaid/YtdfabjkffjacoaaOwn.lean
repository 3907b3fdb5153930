/- Words: a byte slice of the call's own, and append onto it. -/
import Derived.Test.YtdfabjkffjacoaaRows
import Derived.Test.YtdfabjkffjacoaaWords
import Derived.Maps.AppendAt
import Derived.OwnWalk
import Derived.Laws.OwnMore
namespace Go.Proofs.Ytdfabjkffjacoaa
open Go.RowKit

theorem Try.infoB : (Try.prog.info? 5).map (fun i => (i.zero, i.size, i.bytes)) = some (some (.int .u8 0), 1, 1) := by kernel_rfl

/-- own row of bytes, from block B on -/
def Own (B : Nat) (w : World) (A : Option Addr) (n cp : Nat) (l : List UInt8) : Prop := w.ownsRow B 5 1 (.slice A n cp) n (bv l)

section
variable {B n cp : Nat} {w w' : World} {A : Option Addr} {l : List UInt8}
theorem Own.len (h : Own B w A n cp l) : l.length = n := by have := h.1; rw [bv_length] at this; omega
theorem Own.nil (B : Nat) (w : World) : Own B w none 0 0 [] := World.ownsRow_nil w B _ 1
theorem Own.lt (h : Own B w A n cp l) : ∀ ad, A = some ad → B ≤ ad.block ∧ ad.block < w.heap.size := fun ad hA => by
  subst hA
  exact World.ownsRow.lt h ad.block rfl
theorem Own.rd (h : Own B w A n cp l) : Rd w A (bv l) := fun j u hj => by
  rcases h.2 with ⟨_, h0⟩ | ⟨g, cap, cur, hv, _⟩
  · have := h.1
    rw [h0] at this
    have e : bv l = [] := List.eq_nil_of_length_eq_zero (by omega)
    rw [e] at hj; simp at hj
  · have hA : A = some ⟨g, 0, none⟩ := by injection hv
    subst hA
    exact ⟨_, rfl, World.ownsRow.cells (g := g) h rfl j u hj⟩
theorem Own.keep (h : Own B w A n cp l) (hb : Below w.heap.size w w') : Own B w' A n cp l := by
  refine ⟨h.1, ?_⟩
  rcases h.2 with hn | ⟨g, cap, cur, hv, hbg, hg, r⟩
  · exact .inl hn
  · exact .inr ⟨g, cap, cur, hv, hbg, (hb.block g (Array.getElem?_eq_some_iff.1 hg).1).trans hg, r⟩
theorem Own.mono {B' : Nat} (h : Own B w A n cp l) (hB : B' ≤ B) : Own B' w A n cp l := by
  refine ⟨h.1, ?_⟩
  rcases h.2 with hn | ⟨g, cap, cur, hv, hbg, r⟩
  · exact .inl hn
  · exact .inr ⟨g, cap, cur, hv, Nat.le_trans hB hbg, r⟩
theorem Own.grown {row : Option Nat} (h : Own B w A n cp l) (hg : w.grownBy w' row) (hne : ∀ ad, A = some ad → some ad.block ≠ row) : Own B w' A n cp l := by
  refine World.ownsRow.kept h hg ?_
  cases A with
  | none => exact .inl rfl
  | some ad => exact .inr (hne ad rfl)
theorem Own.cap_le (h : Own B w A n cp l) : n ≤ cp := by
  rcases h.2 with ⟨hv, h0⟩ | ⟨g, cap, cur, hv, _, _, hc, _⟩
  · omega
  · injection hv with _ _ hc'; omega
end

theorem run_append_of_nil {P : Program} (w : World) (base : Nat) (t ty e : TypeId) (i : TypeInfo) (size : Nat) (ht : P.underlying t = some (.slice e)) (hi : P.info? e = some i)
    (v : Value) (n : Nat) (xs : List Value) (hown : w.ownsRow base e size v n xs) (c : Nat) : (Builtin.append_ #[t, t] ty #[v, .slice none 0 c]).run P w = .ok v w := by
  rcases hown.2 with ⟨rfl, rfl⟩ | ⟨g, cap, cur, rfl, _, _, hnc, _⟩
  · simp [Builtin.append_, run_underlying ht, sizeOf, typeInfo, hi, Builtin.lenOf, Builtin.firstCells]
  · simp [Builtin.append_, run_underlying ht, sizeOf, typeInfo, hi, Builtin.lenOf, Builtin.firstCells, hnc, storeCells]

theorem bv_one (l : List UInt8) : ∀ u ∈ bv l, u.oneCell' = true := by
  intro u hu
  simp only [bv, List.mem_map] at hu
  obtain ⟨b, _, rfl⟩ := hu
  rfl

/-- append of bytes onto a row of the call's own -/
theorem run_append_b (w : World) (ty : TypeId) (B n cp m c : Nat) (A A' : Option Addr) (l l' : List UInt8)
    (hown : Own B w A n cp l) (hr : Rd w A' (bv l')) (hm : l'.length = m) (hsz : n + m ≤ 140737488355328) (hB : B ≤ w.heap.size) :
    ∃ A2 c2 w2, (Builtin.append_ #[31, 31] ty #[.slice A n cp, .slice A' m c]).run Try.prog w = .ok (.slice A2 (n + m) c2) w2 ∧ Own B w2 A2 (n + m) c2 (l ++ l') ∧
      w.grownBy w2 (A.map (·.block)) ∧ (∀ ad, A2 = some ad → A.map (·.block) = some ad.block ∨ ad.block = w.heap.size) := by
  obtain ⟨i, hi, hz, hs, hb⟩ := info_parts Try.infoB
  have hob : Value.ownBlock (.slice A n cp) = A.map (·.block) := by cases A <;> rfl
  have key : ∃ v' w', (Builtin.append_ #[31, 31] ty #[.slice A n cp, .slice A' m c]).run Try.prog w = .ok v' w' ∧ w'.ownsRow B 5 1 v' (n + m) (bv l ++ bv l') ∧
      w.grownBy w' (A.map (·.block)) ∧ (v'.ownBlock = A.map (·.block) ∨ v'.ownBlock = some w.heap.size) := by
    rcases A' with _ | ad
    · have h0 : l' = [] := by
        cases l' with
        | nil => rfl
        | cons b t => obtain ⟨ad, h, _⟩ := hr 0 (bval b) (by simp [bv]); cases h
      subst h0
      have hm0 : m = 0 := by simpa using hm.symm
      subst hm0
      refine ⟨.slice A n cp, w, run_append_of_nil w B _ ty _ i 1 Try.underlying31 hi _ n _ hown c, ?_, ⟨rfl, rfl, rfl, Nat.le_refl _, fun _ _ _ => rfl⟩, .inl hob⟩
      unfold Own at hown
      simpa [bv] using hown
    · have hcells : ∀ j u, (bv l')[j]? = some u → w.cell? (ad.add j) = some u := fun j u hj => by
        obtain ⟨ad', hA, hc⟩ := hr j u hj
        cases hA
        exact hc
      obtain ⟨v', w', hrun, h2, h3, _, h5⟩ := run_append_own_at (P := Try.prog) w B _ ty _ i (.int .u8 0) 1 1 Try.underlying31 hi hz hs hb rfl (by decide) _ n _ hown ad m c (bv l') (by rw [bv_length]; omega) hcells
        (bv_one l') (by simp only [maxLen]; omega) (by omega) hB
      rw [hob] at h3 h5
      exact ⟨v', w', hrun, h2, h3, h5⟩
  obtain ⟨v', w', hrun, h2, h3, h4⟩ := key
  rw [← bv_append] at h2
  rcases h2.2 with ⟨hv, h0⟩ | ⟨g, cap, cur, hv, _⟩
  · refine ⟨none, 0, w', ?_, ?_, h3, fun ad h => by cases h⟩
    · rw [hrun, hv, h0]
    · have e : n + m = 0 := h0
      unfold Own
      rw [e] at h2 ⊢
      rwa [hv] at h2
  · refine ⟨some ⟨g, 0, none⟩, cap, w', by rw [hrun, hv], ?_, h3, ?_⟩
    · unfold Own; rwa [hv] at h2
    · intro ad had
      cases had
      rw [hv] at h4
      rcases h4 with h4 | h4
      · exact .inl h4.symm
      · exact .inr (by injection h4)

theorem wpList_append_b {ops : Array Oper} {rest : List Oper} {o : Oper} {a : Act} {w : World} {Q : Exit → Act → World → Prop} (hgd : o.guard = none) (s x : Operand)
    (ho : o.op = .call { callee := .builtin .append, args := #[s, x], argTypes := #[31, 31] })
    {B n cp m c : Nat} {A A' : Option Addr} {l l' : List UInt8} (hs : a.eval s = .slice A n cp) (hx : a.eval x = .slice A' m c)
    (hown : Own B w A n cp l) (hr : Rd w A' (bv l')) (hm : l'.length = m) (hsz : n + m ≤ 140737488355328) (hB : B ≤ w.heap.size)
    (h : ∀ A2 c2 w2, Own B w2 A2 (n + m) c2 (l ++ l') → w.grownBy w2 (A.map (·.block)) → (∀ ad, A2 = some ad → A.map (·.block) = some ad.block ∨ ad.block = w.heap.size) →
      wpList Try.prog ops Q rest (a.put o.dst (.slice A2 (n + m) c2)) w2) : wpList Try.prog ops Q (o :: rest) a w := by
  obtain ⟨A2, c2, w2, hrun, h2, h3, h4⟩ := run_append_b w o.type B n cp m c A A' l l' hown hr hm hsz hB
  refine wpList_plain hgd fun K hK => ?_
  unfold Oper.wp execOp
  simp only [ho, resolve, invoke, builtin, Sem.run_bind, Sem.run_pure, Result.andThen_ok, List.map_toArray, List.map_cons, List.map_nil, hs, hx, hrun]
  exact hK _ _ (h A2 c2 w2 h2 h3 h4)

theorem Own.alloc {B n cp : Nat} {w : World} {A : Option Addr} {l : List UInt8} (h : Own B w A n cp l) (o : Obj) : Own B (w.alloc o) A n cp l :=
  h.keep ((Below.refl _ _).alloc (Nat.le_refl _) o)
theorem Own.set {B n cp : Nat} {w : World} {ad : Addr} {l : List UInt8} (h : Own B w (some ad) n cp l) (k : Nat) (b : UInt8) : Own B (w.setCell (ad.add k) (bval b)) (some ad) n cp (l.set k b) := by
  obtain ⟨h1, h2⟩ := h
  refine ⟨by rw [bv_length, List.length_set, ← bv_length]; exact h1, ?_⟩
  rcases h2 with ⟨hv, _⟩ | ⟨g, cap, cur, hv, hbg, hg, hc, hm, hs, ht⟩
  · cases hv
  · injection hv with h1' h2' h3'
    cases h1'
    subst h3'
    refine .inr ⟨g, cp, cur.setIfInBounds k (bval b), rfl, hbg, ?_, hc, hm, by simpa using hs, ?_⟩
    · have : (⟨g, 0, none⟩ : Addr).add k = ⟨g, k, none⟩ := by unfold Addr.add; split <;> simp_all
      rw [this]
      exact heap_setCell_same w g k cur _ _ hg
    · have e : bv (l.set k b) = (bv l).set k (bval b) := by simp [bv, List.map_set]
      rw [e, ← ht, Array.toList_setIfInBounds, List.take_set]
theorem Own.cell {B n cp : Nat} {w : World} {ad : Addr} {l : List UInt8} (h : Own B w (some ad) n cp l) {k : Nat} (hk : k < n) : ∃ u, w.cell? (ad.add k) = some u := by
  obtain ⟨ad', hA, hc⟩ := h.rd.byte (k := k) (by rw [h.len]; exact hk)
  cases hA
  exact ⟨_, hc⟩
theorem Own.frozen {B n cp : Nat} {w : World} {ad : Addr} {l : List UInt8} (h : Own B w (some ad) n cp l) (k : Nat) : w.frozen? (ad.add k) = false := by
  rcases h.2 with ⟨hv, _⟩ | ⟨g, cap, cur, hv, hbg, hg, _⟩
  · cases hv
  · injection hv with h1' _ _
    cases h1'
    have : (⟨g, 0, none⟩ : Addr).add k = ⟨g, k, none⟩ := by unfold Addr.add; split <;> simp_all
    rw [this]
    exact frozen_of_row w g k cur _ hg
theorem run_make_b (n : Nat) (hn : n ≤ 140737488355328) (W : World) : (Instr.makeSlice 31 (.int .i64 n) (.int .i64 n)).run Try.prog W = .ok (.slice (some ⟨W.heap.size, 0, none⟩) n n) (W.alloc (.cells (madeCells #[.int .u8 0] n) 5)) := by
  obtain ⟨i, hi, hz, hs, hb⟩ := info_parts Try.infoB
  have h := run_make (P := Try.prog) W 31 _ i _ Try.underlying31 hi hz .i64 .i64 (n : Int) n (by omega) (by omega) (by rw [hb]; omega) (by omega)
  rw [hs] at h
  simp only [Int.toNat_natCast, Nat.mul_one] at h
  exact h
theorem made_zeros (n : Nat) : (madeCells #[Value.int .u8 0] n).toList = bv (List.replicate n 0) := by
  unfold madeCells bv
  rw [Array.toList_map, Array.toList_range, List.map_replicate]
  apply List.ext_getElem
  · simp
  · intro i h1 h2
    simp only [List.size_toArray, List.length_cons, List.length_nil, Nat.zero_add, Nat.mod_one, List.getElem_map, List.getElem_replicate]
    rfl
theorem Own.made (n : Nat) (hn : n ≤ 140737488355328) (w : World) : Own w.heap.size (w.alloc (.cells (madeCells #[.int .u8 0] n) 5)) (some ⟨w.heap.size, 0, none⟩) n n (List.replicate n 0) :=
  ⟨by simp [bv], .inr ⟨w.heap.size, n, _, rfl, Nat.le_refl _, heap_alloc_new w _, Nat.le_refl _, by simp only [maxLen]; omega, by simp [size_madeCells], by
    rw [made_zeros, Nat.mul_one, List.take_of_length_le (by simp [bv])]⟩⟩
/-- a new block of one byte -/
theorem rd_new1 (w : World) (x : Nat) (t : TypeId) : Rd (w.alloc (.cells #[.int .u8 ((x : Int) % 256)] t)) (some ⟨w.heap.size, 0, none⟩) (bv [UInt8.ofNat (x % 256)]) := fun j u hj => by
  have h : Value.int .u8 ((x : Int) % 256) = bval (UInt8.ofNat (x % 256)) := by simp [bval]
  rw [h]
  exact ⟨_, rfl, cell_one_new w _ t j u (by simpa [bv] using hj)⟩
theorem size_alloc_le {w wr : World} (h : w.heap.size ≤ wr.heap.size) (o : Obj) : w.heap.size ≤ (wr.alloc o).heap.size := by simp; omega

/-- what lay below B, when the row lies from B on -/
theorem below_grown {B : Nat} {w w2 : World} {A : Option Addr} (hg : w.grownBy w2 (A.map (·.block))) (hB : B ≤ w.heap.size) (hA : ∀ ad, A = some ad → B ≤ ad.block) : Below B w w2 :=
  (Below.refl B w).grown hg hB fun k hk => by
    cases A with
    | none => cases hk
    | some ad => cases hk; exact hA ad rfl
theorem thn {w w1 w2 : World} (h1 : Below w.heap.size w w1) (h2 : Below w1.heap.size w1 w2) : Below w.heap.size w w2 := h1.trans (h2.mono h1.size)

/-- append, said shortly -/
theorem wpList_append_s {ops : Array Oper} {rest : List Oper} {o : Oper} {a : Act} {w : World} {Q : Exit → Act → World → Prop} (hgd : o.guard = none) (s x : Operand)
    (ho : o.op = .call { callee := .builtin .append, args := #[s, x], argTypes := #[31, 31] })
    {B n cp m c : Nat} {A A' : Option Addr} {l l' : List UInt8} (hs : a.eval s = .slice A n cp) (hx : a.eval x = .slice A' m c)
    (hown : Own B w A n cp l) (hr : Rd w A' (bv l')) (hm : l'.length = m) (hsz : n + m ≤ 140737488355328) (hB : B ≤ w.heap.size)
    (h : ∀ A2 c2 w2, Own B w2 A2 (n + m) c2 (l ++ l') → Below B w w2 →
      wpList Try.prog ops Q rest (a.put o.dst (.slice A2 (n + m) c2)) w2) : wpList Try.prog ops Q (o :: rest) a w :=
  wpList_append_b hgd s x ho hs hx hown hr hm hsz hB fun A2 c2 w2 h1 h2 _ => h A2 c2 w2 h1 (below_grown h2 hB fun ad e => (hown.lt ad e).1)
theorem rd_block {w : World} {g : Nat} {t : TypeId} {fr : Nat × Nat} {l : List UInt8} {C : Array Value} (hC : C = (bv l).toArray) (hg : w.heap[g]? = some (.cells C t fr)) : Rd w (some ⟨g, 0, none⟩) (bv l) := fun j u hj => by
  refine ⟨_, rfl, ?_⟩
  rw [addr0, cell_of_row w g j C t fr hg, hC]
  simpa using hj
/-- append onto a slice that is full: a new row -/
theorem wpList_append_full {ops : Array Oper} {rest : List Oper} {o : Oper} {a : Act} {w : World} {Q : Exit → Act → World → Prop} (hgd : o.guard = none) (s x : Operand)
    (ho : o.op = .call { callee := .builtin .append, args := #[s, x], argTypes := #[31, 31] })
    {n cp m c : Nat} {ad : Addr} {A' : Option Addr} {l l' : List UInt8} (hs : a.eval s = .slice (some ad) n cp) (hx : a.eval x = .slice A' m c)
    (hr0 : Rd w (some ad) (bv l)) (hn : l.length = n) (hr : Rd w A' (bv l')) (hm : l'.length = m) (hm0 : 0 < m) (hfull : cp < n + m) (hsz : n + m ≤ 140737488355328)
    (h : ∀ A2 c2 w2, Own w.heap.size w2 A2 (n + m) c2 (l ++ l') → Below w.heap.size w w2 →
      wpList Try.prog ops Q rest (a.put o.dst (.slice A2 (n + m) c2)) w2) : wpList Try.prog ops Q (o :: rest) a w := by
  obtain ⟨i, hi, hz, hsi, hb⟩ := info_parts Try.infoB
  have hc : ∀ (l : List UInt8) (ad : Addr), Rd w (some ad) (bv l) → ∀ j u, (bv l)[j]? = some u → w.cell? (ad.add j) = some u := fun l ad hr j u hj => by
    obtain ⟨ad', hA, hc⟩ := hr j u hj
    cases hA
    exact hc
  obtain ⟨ad', hA', _⟩ := hr.byte (k := 0) (by omega)
  subst hA'
  have hrun := run_append_grow (P := Try.prog) w 31 o.type _ i (.int .u8 0) Try.underlying31 hi hz ad n cp (bv l) (by rw [bv_length, hsi]; omega) (hc l ad hr0) ad' m c (bv l') (by rw [bv_length, hsi]; omega) (hc l' ad' hr) hfull (by omega) (growslice_fits hfull (by rw [hb]; omega))
  have hge := grownCap_ge w (n + m) cp 5
  have hle := grownCap_le_maxLen w (n + m) cp 5 (by simp only [maxLen]; omega)
  refine wpList_plain hgd fun K hK => ?_
  unfold Oper.wp execOp
  simp only [ho, resolve, invoke, builtin, Sem.run_bind, Sem.run_pure, Result.andThen_ok, List.map_toArray, List.map_cons, List.map_nil, hs, hx, hrun]
  refine hK _ _ (h _ _ _ ⟨?_, .inr ⟨w.heap.size, _, _, rfl, Nat.le_refl _, heap_alloc_new w.drew _, hge, hle, ?_, ?_⟩⟩ ⟨rfl, rfl, rfl, by simp, fun j hj => Below.heap_alloc w.drew _ j hj⟩)
  · rw [bv_length, List.length_append]; omega
  · simp only [Array.size_append, List.size_toArray, bv_length, size_zeroCells]
    rw [show (Value.int IntKind.u8 0).cells.size = 1 from rfl]
    omega
  · simp only [Array.toList_append, bv_append]
    rw [List.take_left' (by simp [bv_length]; omega)]

/-- xs[lo:hi] of bytes, its address under a name -/
theorem wpList_slice_lh {ops : Array Oper} {rest : List Oper} {o : Oper} {a : Act} {w : World} {Q : Exit → Act → World → Prop} (hgd : o.guard = none) (x lo hi : Operand)
    (ho : o.op = .slice 31 x (some lo) (some hi) none) {A : Option Addr} {n c : Nat} {kl kh : IntKind} (l h : Nat)
    (hx : a.eval x = .slice A n c) (hlo : a.eval lo = .int kl (l : Int)) (hhi : a.eval hi = .int kh (h : Int)) (h1 : l ≤ h) (h2 : h ≤ c)
    (k : ∀ A2, Hid (A2 = if c = l then A else A.map (·.add l)) → wpList Try.prog ops Q rest (a.put o.dst (.slice A2 (h - l) (c - l))) w) : wpList Try.prog ops Q (o :: rest) a w := by
  obtain ⟨i, hi', _, hs, _⟩ := info_parts Try.infoB
  refine wpList_plain hgd fun K hK => ?_
  have hr : (Instr.sliceAt 31 (.slice A n c) (some (.int kl (l : Int))) (some (.int kh (h : Int))) none).run Try.prog w = .ok (.slice (if c = l then A else A.map (·.add l)) (h - l) (c - l)) w := by
    have e2 : (h : Int) ≤ (c : Int) := by omega
    simp [go_sem, Instr.sliceAt, Instr.slice, Instr.sliceBounds, run_underlying Try.underlying31, sizeOf, typeInfo, hi', hs, e2]
    intro hh; omega
  unfold Oper.wp execOp
  simp only [ho, Option.map_some, Option.map_none, hx, hlo, hhi, Sem.run_bind, hr, Result.andThen_ok, Sem.run_pure]
  exact hK _ _ (k _ rfl)
end Go.Proofs.Ytdfabjkffjacoaa
